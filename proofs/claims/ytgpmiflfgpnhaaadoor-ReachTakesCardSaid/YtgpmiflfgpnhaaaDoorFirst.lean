/- reach.First, trawlref11.First: the least place from which a tree takes a piece, and the greatest end from there. (Printed by gen_first.py.) -/
import Derived.Test.YtgpmiflfgpnhaaaDoorRefEnds
import Derived.Test.YtgpmiflfgpnhaaaDoorLen
import Derived.Test.YtgpmiflfgpnhaaaDoorNum
import Derived.OwnWalk
import Derived.Laws.StructEq
set_option linter.unusedSimpArgs false
set_option linter.unusedVariables false
set_option linter.unnecessarySimpa false
namespace Go.Proofs.YtgpmiflfgpnhaaaDoor
open Go.RowKit

theorem Tryd.sizeSpan : (Tryd.prog.info? 72).map (·.size) = some 2 := by kernel_rfl

theorem Tryd.spanGuard : Tryd.prog.eqGuardType Tryd.prog.depth 72 = false := by kernel_rfl
theorem run_eql_span (w : World) (a b c d : Int) : (binOp .eql 72 (.agg #[.int .i64 a, .int .i64 b]) (.agg #[.int .i64 c, .int .i64 d])).run Tryd.prog w = .ok (.bool (a == c && b == d)) w := by
  have u3 := Tryd.underlying3
  have a3 := Tryd.isAgg3
  have z3 := Tryd.sizeOf3
  have hS : Tryd.prog.underlying 72 = some (.struct (Tryd.prog.fieldsOf 72)) := by kernel_rfl
  have hp : Tryd.prog.stoodInHeld 72 = false := by kernel_rfl
  rw [run_eql_struct, show (10000 : Nat) = 9999 + 1 from rfl, run_equalIn_agg w 9999 72 _ _ hS hp]
  simp only [Program.fieldsOf, Tryd.underlying72]
  go_simp
  by_cases h1 : a = c <;> by_cases h2 : b = d <;> simp [h1, h2]

theorem results_cell_tmp {P : Program} {fn : Func} {p : Tmp} {ty : TypeId} {t : Tmp} (h : fn.results = #[.cell p ty, .tmp t]) (tmps : Array Value) (w : World) (g : Nat) (tt : TypeId) (cs : Array Value) (d : TypeDesc)
    (hp : tmps.getD p undef = .pointer (some ⟨g, 0, none⟩)) (hg : w.heap[g]? = some (.cells cs tt (0, 0)))
    (hu : P.underlying ty = some d) (hd : (match d with | .struct _ | .array _ _ => true | _ => false) = true) (hi : (P.info? ty).map (·.size) = some cs.size) :
    (results fn tmps).run P w = .ok (.tuple #[.agg cs, tmps.getD t undef]) w := by
  have hp' : tmps[p]?.getD undef = .pointer (some ⟨g, 0, none⟩) := by simpa using hp
  simp [results, h, hp', asAddr, run_loadVar_row w g tt ty cs (0, 0) d hg hu hd hi]
theorem results_cell_tmp2 {P : Program} {fn : Func} {p : Tmp} {ty : TypeId} {t u : Tmp} (h : fn.results = #[.cell p ty, .tmp t, .tmp u]) (tmps : Array Value) (w : World) (g : Nat) (tt : TypeId) (cs : Array Value) (d : TypeDesc)
    (hp : tmps.getD p undef = .pointer (some ⟨g, 0, none⟩)) (hg : w.heap[g]? = some (.cells cs tt (0, 0)))
    (hu : P.underlying ty = some d) (hd : (match d with | .struct _ | .array _ _ => true | _ => false) = true) (hi : (P.info? ty).map (·.size) = some cs.size) :
    (results fn tmps).run P w = .ok (.tuple #[.agg cs, tmps.getD t undef, tmps.getD u undef]) w := by
  have hp' : tmps[p]?.getD undef = .pointer (some ⟨g, 0, none⟩) := by simpa using hp
  simp [results, h, hp', asAddr, run_loadVar_row w g tt ty cs (0, 0) d hg hu hd hi]

/-- From f to u: the first piece; r: is there one? -/
def FirstIs (R : Nat → Nat → Prop) (n : Nat) (f u : Int) (r : Bool) : Prop :=
  (r = true ∧ ∃ i j : Nat, f = i ∧ u = j ∧ i ≤ n ∧ R i j ∧ (∀ k, R i k → k ≤ j) ∧ ∀ q, q < i → ∀ k, ¬ R q k) ∨ (r = false ∧ f = 0 ∧ u = 0 ∧ ∀ i, i ≤ n → ∀ k, ¬ R i k)
theorem FirstIs.eq {R : Nat → Nat → Prop} {n : Nat} {f u f' u' : Int} {r r' : Bool} (h : FirstIs R n f u r) (h' : FirstIs R n f' u' r') : f = f' ∧ u = u' ∧ r = r' := by
  rcases h with ⟨rfl, i, j, rfl, rfl, h1, h2, h3, h4⟩ | ⟨rfl, rfl, rfl, h1⟩ <;> rcases h' with ⟨rfl, i', j', rfl, rfl, k1, k2, k3, k4⟩ | ⟨rfl, rfl, rfl, k1⟩
  · have e : i = i' := by
      rcases Nat.lt_trichotomy i i' with e | e | e
      · exact absurd h2 (k4 i e j)
      · exact e
      · exact absurd k2 (h4 i' e j')
    subst e
    have := h3 _ k2
    have := k3 _ h2
    exact ⟨rfl, by omega, rfl⟩
  · exact absurd h2 (k1 i h1 j)
  · exact absurd k2 (h1 i' k1 j')
  · exact ⟨rfl, rfl, rfl⟩

set_option maxRecDepth 100000 in
set_option maxHeartbeats 2000000 in
theorem asked_nil {x : Sc} {b m : Nat} (t : T) (A : Option Addr) (c : Nat) (w : World) (a : Nat → Addr) (hN : t.nodes ≤ 1000000) (hin : T.In w (· < w.heap.size) t A) (hscn : Scn w b m x) (hE : Env w a) :
    Calls Tryd.prog 56 #[.agg (t.hd.cells (.slice A t.subs.length c)).toArray, .pointer (some ⟨b, 0, none⟩), .slice none 0 0] w fun e w' => e = .returned (errOf a (asked t x [])) ∧ Below w.heap.size w w' := by
  have hne := fun y ad => run_neq_iface_nil (P := Tryd.prog) (w := y) 37 (by kernel_rfl) 160 (.pointer (some ad))
  have hnn := fun y => run_neq_nil_nil_at (P := Tryd.prog) (w := y) 37 (by kernel_rfl)
  have hA := hide (And.intro (@asked_some t x []) (And.intro (@asked_long t x []) (@asked_none t x [])))
  have HC := hide (fun y (hy : Below w.heap.size w y) => check_any t A c y a hN (hin.same (same_of_below hy) (fun z hz => Nat.lt_of_lt_of_le hz hy.size)) ((hE.below hy).sent.mono (by decide)))
  have HH := hide (And.intro hscn hE)
  have hfit := hscn.fits
  clear hin hscn hE
  generalize asked t x [] = res at *
  generalize t.check = ck at *
  obtain ⟨h, l⟩ := t
  obtain ⟨kind, s0, s1, s2, s3, num, mn, mx, bare⟩ := h
  simp only [T.hd, T.subs, Hd.cells] at HC ⊢
  clear hN
  go_enter Tryd.func56, Tryd.ntmps56
  go_wp2_with fail
  refine (HC.out _ ((Below.refl _ _).alloc (Nat.le_refl _) _)).mono ?_
  rintro e w1 ⟨rfl, hb⟩
  have hbel := ((Below.refl w.heap.size w).alloc (Nat.le_refl _) _).trans (hb.mono (by simp))
  clear hb HC
  have HB := hide hbel
  cases ck with
  | some q =>
    have hr := hA.out.1 rfl
    have HR := hide hr
    clear hr hbel
    simp only [errOf, errV]
    go_wp2_with fail
    go_ret
    exact ⟨by rw [HR.out]; rfl, HB.out⟩
  | none =>
    have hS := hide (HH.out.1.below (w' := w1) hbel)
    have hE := (HH.out.2.below hbel).sent
    have v1 := hE 11 (by decide)
    simp only [errV] at v1
    have HLen := hide (slen_any hS.out)
    clear hE hbel
    simp only [errOf]
    by_cases hlong : 63 < x.len
    · have g1 : decide ((63 : Int) < (x.len : Int)) = true := decide_eq_true (by omega)
      have hr := hA.out.2.1 rfl hlong
      have HR := hide hr
      clear hr
      go_wp2_with fail
      refine HLen.out.mono ?_
      rintro e w2 ⟨rfl, rfl⟩
      go_wp2_with fail
      go_ret
      exact ⟨by rw [HR.out]; rfl, HB.out⟩
    · have g1 : decide ((63 : Int) < (x.len : Int)) = false := decide_eq_false (by omega)
      have hr : res = none := hA.out.2.2.2 ⟨by first | rfl | trivial, by omega, by simp⟩
      have HR := hide hr
      clear v1 hr
      go_wp2_with fail
      refine HLen.out.mono ?_
      rintro e w2 ⟨rfl, rfl⟩
      go_wp2_with fail
      go_loopw [21] (fun kv wr => kv = .int .i64 0 ∧ wr = w1) (fun kv _ => 0)
      case atStart => exact ⟨rfl, rfl⟩
      case round =>
        obtain ⟨rfl, rfl⟩ := hrel
        go_wp2_with fail
        go_ret
        exact ⟨by rw [HR.out]; rfl, HB.out⟩

/-- What First answers. -/
def Firsted (t : T) (x : Sc) (a : Nat → Addr) (w : World) (e : Ending) (w' : World) : Prop :=
  ∃ (f u : Int) (r : Bool), e = .returned (.tuple #[.agg #[.int .i64 f, .int .i64 u], .bool r, errOf a (asked t x [])]) ∧ (asked t x [] = none → FirstIs (t.R x) x.len f u r) ∧ (asked t x [] ≠ none → f = 0 ∧ u = 0 ∧ r = false) ∧ Below w.heap.size w w'

set_option maxRecDepth 100000 in
set_option maxHeartbeats 4000000 in
theorem first_any {x : Sc} {b m : Nat} (t : T) (A : Option Addr) (c : Nat) (w : World) (a : Nat → Addr) (hN : t.nodes ≤ 1000000) (hwf : t.wf) (hin : T.In w (· < w.heap.size) t A) (hscn : Scn w b m x) (hE : Env w a) :
    Calls Tryd.prog 37 #[.agg (t.hd.cells (.slice A t.subs.length c)).toArray, .pointer (some ⟨b, 0, none⟩)] w (Firsted t x a w) := by
  have hne := fun y ad => run_neq_iface_nil (P := Tryd.prog) (w := y) 37 (by kernel_rfl) 160 (.pointer (some ad))
  have hnn := fun y => run_neq_nil_nil_at (P := Tryd.prog) (w := y) 37 (by kernel_rfl)
  have HD := hide (show ∀ e w', (∃ (f u : Int) (r : Bool), e = .returned (.tuple #[.agg #[.int .i64 f, .int .i64 u], .bool r, errOf a (asked t x [])]) ∧ (asked t x [] = none → FirstIs (t.R x) x.len f u r) ∧ (asked t x [] ≠ none → f = 0 ∧ u = 0 ∧ r = false) ∧ Below w.heap.size w w') → Firsted t x a w e w' from fun e w' h => h)
  have HN := hide (@asked_none t x [])
  have HA := hide (fun y (hy : Below w.heap.size w y) => asked_nil (x := x) (b := b) (m := m) t A c y a hN (hin.same (same_of_below hy) (fun z hz => Nat.lt_of_lt_of_le hz hy.size)) (hscn.below hy) (hE.below hy))
  have HSt := hide (fun (hn : x.len ≤ 63) (hf : t.form = true) => step_any 1000000 (b := b) (m := m) hn t hN (by decide) hwf hf A c)
  have HFc := hide (@T.form_of_check t)
  have HH := hide (And.intro hscn (And.intro hE hin))
  clear hscn hE hin hwf hN
  generalize asked t x [] = res at *
  generalize t.check = ck at *
  generalize t.form = fo at *
  generalize t.R x = R at *
  generalize Firsted t x a w = Post at *
  obtain ⟨⟨kind, s0, s1, s2, s3, num, mn, mx, bare⟩, l⟩ := t
  simp only [T.hd, T.subs, Hd.cells] at HA HSt ⊢
  have hbt := (Blk.new w 52 #[.int .i64 kind, .int .u64 s0, .int .u64 s1, .int .u64 s2, .int .u64 s3, .slice A l.length c, .int .i64 num, .int .i64 mn, .int .i64 mx, .bool bare]).alloc (.cells #[.int .i64 0, .int .i64 0] 72)
  have hbr := Blk.new (w.alloc (.cells #[.int .i64 kind, .int .u64 s0, .int .u64 s1, .int .u64 s2, .int .u64 s3, .slice A l.length c, .int .i64 num, .int .i64 mn, .int .i64 mx, .bool bare] 52)) 72 #[.int .i64 0, .int .i64 0]
  have hbel := ((Below.refl w.heap.size w).alloc (Nat.le_refl _) (.cells #[.int .i64 kind, .int .u64 s0, .int .u64 s1, .int .u64 s2, .int .u64 s3, .slice A l.length c, .int .i64 num, .int .i64 mn, .int .i64 mx, .bool bare] 52)).alloc (by simp) (.cells #[.int .i64 0, .int .i64 0] 72)
  simp only [World.size_alloc] at hbr
  go_enter Tryd.func37, Tryd.ntmps37
  go_wp2_with fail
  refine (HA.out _ hbel).mono ?_
  rintro e w1 ⟨rfl, hb⟩
  have HJ := hide (And.intro (hbt.next hb) (hbr.next hb))
  have HB := hide (hbel.trans (hb.mono hbel.size))
  clear hb hbt hbr hbel HA
  cases res with
  | some g =>
    simp only [errOf, errV] at HD ⊢
    go_wp2_with (refine wpList_store_row rfl _ _ _ rfl (w.heap.size + 1) 0 _ _ _ rfl rfl HJ.out.2 Tryd.sizeSpan (by simp) (by simp [Value.oneCell']) ?_)
    intro w2 hrow2 hg2 hz2
    have hrow := hrow2.out
    rw [splice_all (by rfl)] at hrow
    have hb : Below w.heap.size w1 w2 := below_grown (Below.refl _ _) hg2 HB.out.size (fun g hg => by injection hg with hg; omega)
    have HR := hide (And.intro hrow (HB.out.trans hb))
    clear hrow2 hrow hg2 hz2 hb
    go_wp2_with fail
    refine bodyPost_ret (results_cell_tmp2 rfl _ _ (w.heap.size + 1) _ _ _ rfl HR.out.1 Tryd.underlying72 rfl Tryd.sizeSpan) rfl ?_
    exact HD.out _ _ ⟨0, 0, false, rfl, (fun h => by cases h), fun _ => ⟨rfl, rfl, rfl⟩, HR.out.2⟩
  | none =>
  obtain ⟨hck, hn, _⟩ := HN.out.1 (by first | rfl | trivial)
  have hf := HFc.out hck
  clear hck HN HFc
  simp only [errOf] at HD ⊢
  replace HSt := hide (HSt.out hn hf)
  go_wp2_with fail
  go_loopw [8] (fun kv wr => ∃ k : Nat, kv = .int .i64 k ∧ k ≤ x.len + 1 ∧ (∀ i, i < k → ∀ j, ¬ R i j) ∧ Below w.heap.size w wr ∧ Blk wr w.heap.size 52 #[.int .i64 kind, .int .u64 s0, .int .u64 s1, .int .u64 s2, .int .u64 s3, .slice A l.length c, .int .i64 num, .int .i64 mn, .int .i64 mx, .bool bare] ∧ Blk wr (w.heap.size + 1) 72 #[.int .i64 0, .int .i64 0]) (fun kv _ => x.len + 1 - (intOf kv).toNat)
  case atStart => exact ⟨0, rfl, by omega, fun i h => by omega, HB.out, HJ.out.1, HJ.out.2⟩
  case round =>
    clear HB HJ
    obtain ⟨k, rfl, hk, hnone, hbel, hbt, hbr⟩ := hrel
    have hS := hide (HH.out.1.below hbel)
    have HLen := hide (slen_any hS.out)
    have HN := hide hnone
    have HB := hide hbel
    have HJ := hide (And.intro hbt hbr)
    clear hbel hbt hbr hnone
    by_cases hlt : k ≤ x.len
    case neg =>
      have g1 : decide ((k : Int) ≤ (x.len : Int)) = false := decide_eq_false (by omega)
      go_wp2_with fail
      refine HLen.out.mono ?_
      rintro e w2 ⟨rfl, rfl⟩
      go_wp2_with (refine wpList_store_row rfl _ _ _ rfl (w.heap.size + 1) 0 _ _ _ rfl rfl HJ.out.2 Tryd.sizeSpan (by simp) (by simp [Value.oneCell']) ?_)
      intro w2 hrow2 hg2 hz2
      have hrow := hrow2.out
      rw [splice_all (by rfl)] at hrow
      have hb : Below w.heap.size wr w2 := below_grown (Below.refl _ _) hg2 HB.out.size (fun g hg => by injection hg with hg; omega)
      have HR := hide (And.intro hrow (HB.out.trans hb))
      clear hrow2 hrow hg2 hz2 hb
      go_wp2_with fail
      refine bodyPost_ret (results_cell_tmp2 rfl _ _ (w.heap.size + 1) _ _ _ rfl HR.out.1 Tryd.underlying72 rfl Tryd.sizeSpan) rfl ?_
      exact HD.out _ _ ⟨0, 0, false, rfl, (fun _ => .inr ⟨rfl, rfl, rfl, fun i hi => HN.out i (by omega)⟩), fun h => absurd rfl h, HR.out.2⟩
    have g1 : decide ((k : Int) ≤ (x.len : Int)) = true := decide_eq_true (by omega)
    go_wp2_with fail
    refine HLen.out.mono ?_
    rintro e w2 ⟨rfl, rfl⟩
    have hsw := wrap_two (k := k) (by omega)
    have hpb := two_pow_lt (i := k) (by omega)
    obtain ⟨f, hf2⟩ : ∃ f, 2 ^ k = f := ⟨_, rfl⟩
    rw [hf2] at hsw hpb
    have hi64 : k < 64 := by omega
    have HF := hide hf2
    clear hf2
    go_upto_region 7 with fail
    refine wp_region_mix (fun y => Below wr.heap.size wr y) [5] (by kernel_rfl) (fun hcl => ?_)
    have hS2 : Below wr.heap.size wr wr.drew := (Below.refl _ _).drew
    refine wpAnyT_free (i := 0) hcl rfl (by kernel_rfl) (v := ?_) (fun _ _ _ h => h) hS2 (Or.inl ⟨rfl, fun w' _ => ?_⟩) (fun hcl => ?_)
    rotate_left
    · go_simp
      with_reducible rfl
    simp only [List.getElem_toArray, List.getElem_cons_zero, List.getElem_cons_succ, Act.put, List.setIfInBounds_toArray, List.set_cons_zero, List.set_cons_succ]
    refine wpAnyT_free (i := 1) hcl rfl (by kernel_rfl) (v := ?_) (fun _ _ _ h => h) hS2 (Or.inl ⟨rfl, fun w' _ => ?_⟩) (fun hcl => ?_)
    rotate_left
    · go_simp
      with_reducible rfl
    simp only [List.getElem_toArray, List.getElem_cons_zero, List.getElem_cons_succ, Act.put, List.setIfInBounds_toArray, List.set_cons_zero, List.set_cons_succ]
    refine wpAnyT_take (i := 2) hcl rfl (by kernel_rfl) (v := ?_) (fun _ _ _ h => h) hS2 (Or.inl ⟨rfl, fun w' hS2 => ?_⟩) (fun hcl => ?_)
    rotate_left
    · skip
      have ct := (HJ.out.1.below hS2 HJ.out.1.lt).cell
      go_simp
      with_reducible rfl
    simp only [List.getElem_toArray, List.getElem_cons_zero, List.getElem_cons_succ, Act.put, List.setIfInBounds_toArray, List.set_cons_zero, List.set_cons_succ]
    refine wpAnyT_free (i := 3) hcl rfl (by kernel_rfl) (v := ?_) (fun _ _ _ h => h) hS2 (Or.inl ⟨rfl, fun w' _ => ?_⟩) (fun hcl => ?_)
    rotate_left
    · go_simp
      with_reducible rfl
    simp only [List.getElem_toArray, List.getElem_cons_zero, List.getElem_cons_succ, Act.put, List.setIfInBounds_toArray, List.set_cons_zero, List.set_cons_succ]
    refine wpAnyT_free (i := 4) hcl rfl (by kernel_rfl) (v := ?_) (fun _ _ _ h => h) hS2 (Or.inl ⟨rfl, fun w' _ => ?_⟩) (fun hcl => ?_)
    rotate_left
    · go_simp
      with_reducible rfl
    simp only [List.getElem_toArray, List.getElem_cons_zero, List.getElem_cons_succ, Act.put, List.setIfInBounds_toArray, List.set_cons_zero, List.set_cons_succ]
    refine wpAnyT_last (i := 5) hcl rfl (by kernel_rfl) (by kernel_rfl) (fun hcl => ?_)
    simp only [List.getElem_toArray, List.getElem_cons_zero, List.getElem_cons_succ, Act.put, List.setIfInBounds_toArray, List.set_cons_zero, List.set_cons_succ]
    have HX := hide (HSt.out f _ (HH.out.2.2.next (HB.out.trans (hS2.mono HB.out.size))) (hS.out.below hS2) ((HH.out.2.1.below HB.out).below hS2).tab (by rw [← HF.out]; exact one_fits hlt))
    have HB2 := hide hS2
    clear hS2
    go_wp2_with fail
    refine HX.out.mono ?_
    rintro e w2 ⟨tw, rfl, himg, hfit, hb⟩
    rw [← HF.out] at himg
    have hone := one_img himg
    have htw := hfit.lt hn
    have HB3 := hide (HB2.out.trans (hb.mono HB2.out.size))
    have HI := hide (And.intro hone hfit)
    clear himg hfit hb hone
    go_wp2_with fail
    refine wpAnyT_last (i := 6) hcl rfl (by kernel_rfl) (by kernel_rfl) (fun hcl => ?_)
    simp only [List.getElem_toArray, List.getElem_cons_zero, List.getElem_cons_succ, Act.put, List.setIfInBounds_toArray, List.set_cons_zero, List.set_cons_succ]
    go_wp2_with fail
    refine wpAnyT_done (by kernel_rfl) ?_ _
    by_cases h0 : tw = 0
    · subst h0
      go_wp2_with fail
      go_roundw
      case rel => exact ⟨k + 1, by go_num, by omega, fun i hi j => by
        by_cases h : i = k
        · rw [h, ← HI.out.1]; simp
        · exact HN.out i (by omega) j, HB.out.trans (HB3.out.mono HB.out.size), HJ.out.1.next HB3.out, HJ.out.2.next HB3.out⟩
      case measure => simp [intOf]; omega
    · have g2 : ((tw : Int) != 0) = true := bne_iff_ne.2 (by omega)
      obtain ⟨q, hq, hq64, hqb, hqm⟩ := bitLen_top tw htw h0
      have HT := hide (And.intro ((HI.out.1 q).1 hqb) (fun j h => hqm j ((HI.out.1 j).2 h)))
      have HLn := hide (fun y => len64_any tw htw y)
      rw [hq] at HLn
      clear hqb hqm hq htw
      go_wp2_with fail
      refine (HLn.out _).mono ?_
      rintro e w3 ⟨rfl, rfl⟩
      have hbr := HJ.out.2.next HB3.out
      have hqs : ((q + 1 : Nat) : Int) - 1 = (q : Int) := by omega
      go_wp2_with (refine wpList_store_row rfl _ _ _ rfl (w.heap.size + 1) 0 _ _ _ rfl rfl hbr Tryd.sizeSpan (by simp) (by simp [Value.oneCell']) ?_)
      intro w3 hrow2 hg2 hz2
      have hrow := hrow2.out
      rw [splice_all (by rfl)] at hrow
      have hb2 := HB.out.trans (HB3.out.mono HB.out.size)
      have hb : Below w.heap.size w w3 := below_grown hb2 hg2 (Nat.le_refl _) (fun g hg => by injection hg with hg; omega)
      have HR := hide (And.intro hrow hb)
      clear hrow2 hrow hg2 hz2 hb hb2 hbr
      go_wp2_with fail
      refine bodyPost_ret (results_cell_tmp2 rfl _ _ (w.heap.size + 1) _ _ _ rfl HR.out.1 Tryd.underlying72 rfl Tryd.sizeSpan) rfl ?_
      exact HD.out _ _ ⟨k, q, true, by simp, (fun _ => .inl ⟨rfl, k, q, rfl, rfl, hlt, HT.out.1, HT.out.2, HN.out⟩), fun h => absurd rfl h, HR.out.2⟩

/-- What the document's First answers. -/
def RefFirsted (R : Nat → Nat → Prop) (n : Nat) (w : World) (e : Ending) (w' : World) : Prop :=
  ∃ (f u : Int) (r : Bool), e = .returned (.tuple #[.agg #[.int .i64 f, .int .i64 u], .bool r]) ∧ FirstIs R n f u r ∧ Below w.heap.size w w'

theorem EndsOf.top {R : Nat → Nat → Prop} {n i : Nat} {l : List Int} (h : EndsOf R n i l) (hn : n ≤ 63) (hl : 0 < l.length) : ∃ j : Nat, l[l.length - 1]? = some (j : Int) ∧ R i j ∧ ∀ k, R i k → k ≤ j := by
  obtain ⟨tw, h1, h2, rfl⟩ := h
  rw [places_upto h2 hn] at hl ⊢
  have hs : ((List.range (n + 1)).filter fun i => tw.testBit i).Pairwise (· < ·) := List.pairwise_lt_range.sublist List.filter_sublist
  have hm : ∀ k, k ∈ ((List.range (n + 1)).filter fun i => tw.testBit i) ↔ R i k := fun k => by
    rw [← one_img h1, List.mem_filter, List.mem_range]
    exact ⟨fun h => h.2, fun h => ⟨by have := h2 k h; omega, h⟩⟩
  generalize ((List.range (n + 1)).filter fun i => tw.testBit i) = r at *
  simp only [List.length_map] at hl ⊢
  have hlt : r.length - 1 < r.length := by omega
  refine ⟨r[r.length - 1], by rw [List.getElem?_map, List.getElem?_eq_getElem hlt]; rfl, (hm _).1 (List.getElem_mem hlt), fun k hk => ?_⟩
  obtain ⟨q, hq, e⟩ := List.getElem_of_mem ((hm k).2 hk)
  subst e
  by_cases he : q = r.length - 1
  · subst he; exact Nat.le_refl _
  · exact Nat.le_of_lt (List.pairwise_iff_getElem.1 hs q (r.length - 1) hq hlt (by omega))
theorem EndsOf.empty {R : Nat → Nat → Prop} {n i : Nat} (h : EndsOf R n i []) (hn : n ≤ 63) (j : Nat) : ¬ R i j := fun hr => by
  have := (h.mem hn j).2 hr
  simp at this

set_option maxRecDepth 100000 in
set_option maxHeartbeats 4000000 in
theorem refFirst_any {x : Sc} {cf ef : Int} (hr : RefSc x cf ef) (hn : x.text.size ≤ 63) (t : T) (A : Option Addr) (c : Nat) (w : World) (hN : t.nodes ≤ 1000000) (hwf : t.wf) (hform : t.form = true) (hin : T.In w (· < w.heap.size) t A) :
    Calls Tryd.prog 38 #[.agg (t.hd.cells (.slice A t.subs.length c)).toArray, .agg #[.string x.text, .int .i64 cf, .int .i64 ef, .bool false], .int .i64 0] w (RefFirsted (t.R x) x.text.size w) := by
  have HE := hide (fun i hi y (hy : Below w.heap.size w y) => refEnds_any hr hn t A c y hN hwf hform (hin.next hy) i hi)
  generalize t.R x = R at *
  clear hform hwf hin hN hr
  obtain ⟨⟨kind, s0, s1, s2, s3, num, mn, mx, bare⟩, l⟩ := t
  simp only [T.hd, T.subs, Hd.cells] at HE ⊢
  have hbt := ((Blk.new w 52 #[.int .i64 kind, .int .u64 s0, .int .u64 s1, .int .u64 s2, .int .u64 s3, .slice A l.length c, .int .i64 num, .int .i64 mn, .int .i64 mx, .bool bare]).alloc (.cells #[.string x.text, .int .i64 cf, .int .i64 ef, .bool false] 34)).alloc (.cells #[.int .i64 0, .int .i64 0] 72)
  have hbs := (Blk.new (w.alloc (.cells #[.int .i64 kind, .int .u64 s0, .int .u64 s1, .int .u64 s2, .int .u64 s3, .slice A l.length c, .int .i64 num, .int .i64 mn, .int .i64 mx, .bool bare] 52)) 34 #[.string x.text, .int .i64 cf, .int .i64 ef, .bool false]).alloc (.cells #[.int .i64 0, .int .i64 0] 72)
  have hbr := Blk.new ((w.alloc (.cells #[.int .i64 kind, .int .u64 s0, .int .u64 s1, .int .u64 s2, .int .u64 s3, .slice A l.length c, .int .i64 num, .int .i64 mn, .int .i64 mx, .bool bare] 52)).alloc (.cells #[.string x.text, .int .i64 cf, .int .i64 ef, .bool false] 34)) 72 #[.int .i64 0, .int .i64 0]
  have hbel := (((Below.refl w.heap.size w).alloc (Nat.le_refl _) (.cells #[.int .i64 kind, .int .u64 s0, .int .u64 s1, .int .u64 s2, .int .u64 s3, .slice A l.length c, .int .i64 num, .int .i64 mn, .int .i64 mx, .bool bare] 52)).alloc (by simp) (.cells #[.string x.text, .int .i64 cf, .int .i64 ef, .bool false] 34)).alloc (by simp; omega) (.cells #[.int .i64 0, .int .i64 0] 72)
  simp only [World.size_alloc] at hbs hbr
  have HJ := hide (And.intro hbt (And.intro hbs hbr))
  have HB := hide hbel
  clear hbt hbs hbr hbel
  go_enter Tryd.func38, Tryd.ntmps38
  go_wp2_with fail
  generalize (((w.alloc (.cells #[.int .i64 kind, .int .u64 s0, .int .u64 s1, .int .u64 s2, .int .u64 s3, .slice A l.length c, .int .i64 num, .int .i64 mn, .int .i64 mx, .bool bare] 52)).alloc (.cells #[.string x.text, .int .i64 cf, .int .i64 ef, .bool false] 34)).alloc (.cells #[.int .i64 0, .int .i64 0] 72)) = W at *
  go_loopw [8] (fun kv wr => ∃ k : Nat, kv = .int .i64 k ∧ k ≤ x.text.size + 1 ∧ (∀ i, i < k → ∀ j, ¬ R i j) ∧ Below w.heap.size w wr ∧ Blk wr w.heap.size 52 #[.int .i64 kind, .int .u64 s0, .int .u64 s1, .int .u64 s2, .int .u64 s3, .slice A l.length c, .int .i64 num, .int .i64 mn, .int .i64 mx, .bool bare] ∧ Blk wr (w.heap.size + 1) 34 #[.string x.text, .int .i64 cf, .int .i64 ef, .bool false] ∧ Blk wr (w.heap.size + 1 + 1) 72 #[.int .i64 0, .int .i64 0]) (fun kv _ => x.text.size + 1 - (intOf kv).toNat)
  case atStart => exact ⟨0, rfl, by omega, fun i h => by omega, HB.out, HJ.out.1, HJ.out.2.1, HJ.out.2.2⟩
  case round =>
    clear HB HJ
    obtain ⟨k, rfl, hk, hnone, hbel, hbt, hbs, hbr⟩ := hrel
    have HN := hide hnone
    have HB := hide hbel
    have HJ := hide (And.intro hbt (And.intro hbs hbr))
    have ct := hbt.cell
    have cs := hbs.cell
    clear hbel hbt hbs hbr hnone
    by_cases hlt : k ≤ x.text.size
    case neg =>
      have g1 : decide ((k : Int) ≤ (x.text.size : Int)) = false := decide_eq_false (by omega)
      go_wp2_with (refine wpList_store_row rfl _ _ _ rfl (w.heap.size + 1 + 1) 0 _ _ _ rfl rfl HJ.out.2.2 Tryd.sizeSpan (by simp) (by simp [Value.oneCell']) ?_)
      intro w2 hrow2 hg2 hz2
      have hrow := hrow2.out
      rw [splice_all (by rfl)] at hrow
      have hb : Below w.heap.size wr w2 := below_grown (Below.refl _ _) hg2 HB.out.size (fun g hg => by injection hg with hg; omega)
      have HR := hide (And.intro hrow (HB.out.trans hb))
      clear hrow2 hrow hg2 hz2 hb ct cs
      go_wp2_with fail
      refine bodyPost_ret (results_cell_tmp rfl _ _ (w.heap.size + 1 + 1) _ _ _ rfl HR.out.1 Tryd.underlying72 rfl Tryd.sizeSpan) rfl ?_
      exact ⟨0, 0, false, rfl, .inr ⟨rfl, rfl, rfl, fun i hi => HN.out i (by omega)⟩, HR.out.2⟩
    have g1 : decide ((k : Int) ≤ (x.text.size : Int)) = true := decide_eq_true (by omega)
    go_wp2_with fail
    refine (HE.out k hlt _ HB.out).mono ?_
    rintro e w2 ⟨v, r, rfl, hown, hends, hb⟩
    clear ct cs
    obtain ⟨LA, Lc, rfl, hl1, hl2⟩ := hown.form
    replace HB := hide (HB.out.trans (hb.mono HB.out.size))
    replace HJ := hide (And.intro (HJ.out.1.next hb) (And.intro (HJ.out.2.1.next hb) (HJ.out.2.2.next hb)))
    clear hb hown
    by_cases hnil : r = []
    · subst hnil
      have HT := hide (fun j => hends.empty hn j)
      clear hends hl2
      go_wp2_with fail
      go_roundw
      case rel => exact ⟨k + 1, by go_num, by omega, fun i hi j => by
        by_cases h : i = k
        · rw [h]; exact HT.out j
        · exact HN.out i (by omega) j, HB.out, HJ.out.1, HJ.out.2.1, HJ.out.2.2⟩
      case measure => simp [intOf]; omega
    · have hpos : 0 < r.length := List.length_pos_iff.2 hnil
      have g2 : decide ((0 : Int) < (r.length : Int)) = true := decide_eq_true (by omega)
      obtain ⟨j, hj, hrj, hmax⟩ := hends.top hn hpos
      obtain ⟨gl, rfl, _, _, cl⟩ := hl2 _ _ hj
      have HT := hide (And.intro hrj hmax)
      obtain ⟨n1, hn1⟩ : ∃ n1, r.length = n1 + 1 := ⟨r.length - 1, by omega⟩
      rw [hn1] at cl hl1 g2 ⊢
      simp only [Nat.add_sub_cancel] at cl
      have hsub : ((n1 + 1 : Nat) : Int) - 1 = (n1 : Int) := by omega
      clear hends hl2 hj hrj hmax hpos
      go_wp2_with (refine wpList_store_row rfl _ _ _ rfl (w.heap.size + 1 + 1) 0 _ _ _ rfl rfl HJ.out.2.2 Tryd.sizeSpan (by simp) (by simp [Value.oneCell']) ?_)
      intro w3 hrow2 hg2 hz2
      have hrow := hrow2.out
      rw [splice_all (by rfl)] at hrow
      have hb : Below w.heap.size w w3 := below_grown HB.out hg2 (Nat.le_refl _) (fun g hg => by injection hg with hg; omega)
      have HR := hide (And.intro hrow hb)
      clear hrow2 hrow hg2 hz2 hb cl
      go_wp2_with fail
      refine bodyPost_ret (results_cell_tmp rfl _ _ (w.heap.size + 1 + 1) _ _ _ rfl HR.out.1 Tryd.underlying72 rfl Tryd.sizeSpan) rfl ?_
      exact ⟨k, j, true, rfl, .inl ⟨rfl, k, j, rfl, rfl, hlt, HT.out.1, HT.out.2, HN.out⟩, HR.out.2⟩

theorem refFirst_of {x : Sc} {cf ef : Int} {s : ByteArray} (hx : x.text = s) (hr : RefSc x cf ef) (hn : x.text.size ≤ 63) (t : T) (A : Option Addr) (c : Nat) (w : World) (hN : t.nodes ≤ 1000000) (hwf : t.wf) (hform : t.form = true) (hin : T.In w (· < w.heap.size) t A) :
    Calls Tryd.prog 38 #[.agg (t.hd.cells (.slice A t.subs.length c)).toArray, .agg #[.string s, .int .i64 cf, .int .i64 ef, .bool false], .int .i64 0] w (RefFirsted (t.R x) x.text.size w) := by
  subst hx
  exact refFirst_any hr hn t A c w hN hwf hform hin
end Go.Proofs.YtgpmiflfgpnhaaaDoor
