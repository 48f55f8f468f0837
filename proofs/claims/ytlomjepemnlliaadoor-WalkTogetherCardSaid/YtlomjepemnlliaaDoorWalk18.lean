/- Asked18: walk.asked: the errors of a call; else a walker. (Printed by gen_asked18.py.)
Run18: The walk over positions, in plain Lean: fronts, ends.
Walk18: walk.Ends, Longest, Any. (Printed by gen_walk18.py.)
Any18: walk.Longest, walk.Any. (Printed by gen_any18.py.) -/
import Derived.Test.YtlomjepemnlliaaDoorEnds18
import Derived.OwnWalk
set_option linter.unusedSimpArgs false
set_option linter.unusedVariables false
set_option linter.unnecessarySimpa false

/-! ## Asked18 -/
namespace Go.Proofs.YtlomjepemnlliaaDoor
open Go.RowKit

/-- The error of a call. -/
def Asked18 (p : Po) (x : Sc) (a : Int) (g : Option Nat) : Prop :=
  (g = some 12 ∧ ¬ p.Ok) ∨ (g = some 14 ∧ p.Ok ∧ (a < 0 ∨ (x.len : Int) < a)) ∨ (g = none ∧ p.Ok ∧ 0 ≤ a ∧ a ≤ x.len)
theorem Asked18.eq {p : Po} {x : Sc} {a : Int} {g h : Option Nat} (h1 : Asked18 p x a g) (h2 : Asked18 p x a h) : g = h := by
  rcases h1 with ⟨rfl, a1⟩ | ⟨rfl, a1, a2⟩ | ⟨rfl, a1, a2, a3⟩ <;> rcases h2 with ⟨rfl, b1⟩ | ⟨rfl, b1, b2⟩ | ⟨rfl, b1, b2, b3⟩ <;> first | rfl | exact absurd a1 b1 | exact absurd b1 a1 | omega

/-- What asked answers. -/
def Asked18A (p : Po) (pa : PoA) (x : Sc) (sb sm : Nat) (q : Int) (a : Nat → Addr) (w : World) (e : Ending) (w' : World) : Prop :=
  ∃ g : Option Nat, Asked18 p x q g ∧ Below w.heap.size w w' ∧ (g ≠ none → e = .returned (.tuple #[.pointer none, walkErr a g])) ∧ (g = none → ∃ b gi, e = .returned (.tuple #[.pointer (some ⟨b, 0, none⟩), .nilIface]) ∧ WkAt p pa x sb sm p.sets.length b gi w.heap.size [] (.slice none 0 0) w')

set_option maxRecDepth 100000 in
set_option maxHeartbeats 4000000 in
theorem asked18_any (p : Po) (pa : PoA) (x : Sc) (sb sm : Nat) (q : Int) (a : Nat → Addr) (w : World) (hwf : p.wf) (hin : PoIn (· < w.heap.size) w p pa) (hsc : Scn w sb sm x) (hE : Sent [12, 14] w a) (hq : IsI64 q) (hn6 : p.Ok → p.sets.length ≤ 1000000) :
    Calls Tryd.prog 44 #[.agg (p.cells pa).toArray, .pointer (some ⟨sb, 0, none⟩), .int .i64 q] w (Asked18A p pa x sb sm q a w) := by
  have hne := fun y ad => run_neq_iface_nil (P := Tryd.prog) (w := y) 37 (by kernel_rfl) 161 (.pointer (some ad))
  have hnn := fun y => run_neq_nil_nil_at (P := Tryd.prog) (w := y) 37 (by kernel_rfl)
  have HC := hide (fun y (hy : Below w.heap.size w y) => posCheck_any p pa y a hwf (hin.next hy) ((hE.below hy).mono (by decide)))
  have HE := hide (fun y (hy : Below w.heap.size w y) => (hE.below hy) 14 (by decide))
  have HS := hide hsc
  have hfit := hsc.fits
  obtain ⟨q1, q2⟩ := hq
  have HPI := hide hin
  clear hwf hin hE hsc
  obtain ⟨As, Af, Al, Aw, ks, kf, kl, kw⟩ := pa
  simp only [Po.cells] at HC ⊢
  have hbp := Blk.new w 26 #[.slice As p.sets.length ks, .int .i64 p.null, .slice Af p.first.length kf, .slice Al p.last.length kl, .slice Aw p.follow.length kw]
  have hbel := (Below.refl w.heap.size w).alloc (Nat.le_refl _) (.cells #[.slice As p.sets.length ks, .int .i64 p.null, .slice Af p.first.length kf, .slice Al p.last.length kl, .slice Aw p.follow.length kw] 26)
  go_enter Tryd.func44, Tryd.ntmps44
  go_wp2_with fail
  refine (HC.out _ hbel).mono ?_
  rintro e w1 ⟨g, rfl, hg, hgt, hb⟩
  have HB := hide (And.intro (hbel.trans (hb.mono hbel.size)) (hbp.nxt hb))
  clear hb hbel hbp HC
  rcases hgt with rfl | rfl
  case inr =>
    simp only [walkErr, errV]
    go_wp2_with fail
    go_ret2
    exact ⟨some 12, .inl ⟨rfl, fun h => by have := hg.2 h; cases this⟩, HB.out.1, fun _ => rfl, fun h => by cases h⟩
  have HOk := hide (hg.1 rfl)
  have hn6' := hn6 HOk.out
  have hmk := fun W => run_bo (ts := 70) Tryd.underlying70 p.sets.length (by omega) W
  clear hg
  simp only [walkErr]
  by_cases h0 : q < 0
  · have d0 : decide (q < 0) = true := decide_eq_true h0
    have hv := HE.out _ HB.out.1
    simp only [errV] at hv
    go_upto_region 5 with fail
    go_quiet (fail)
    go_wp2_with fail
    go_ret2
    exact ⟨some 14, .inr (.inl ⟨rfl, HOk.out, .inl h0⟩), below_drewN HB.out.1 _, fun _ => rfl, fun h => by cases h⟩
  have d0 : decide (q < 0) = false := decide_eq_false h0
  have HLen := hide (slen_any (HS.out.below HB.out.1))
  by_cases h1 : (x.len : Int) < q
  · have d1 : decide ((x.len : Int) < q) = true := decide_eq_true h1
    have hv := HE.out _ HB.out.1
    simp only [errV] at hv
    go_wp2_with fail
    refine HLen.out.mono ?_
    rintro e w2 ⟨rfl, rfl⟩
    go_upto_region 5 with fail
    go_quiet (fail)
    go_wp2_with fail
    go_ret2
    exact ⟨some 14, .inr (.inl ⟨rfl, HOk.out, .inr h1⟩), below_drewN HB.out.1 _, fun _ => rfl, fun h => by cases h⟩
  have d1 : decide ((x.len : Int) < q) = false := decide_eq_false h1
  go_wp2_with fail
  refine HLen.out.mono ?_
  rintro e w2 ⟨rfl, rfl⟩
  go_upto_region 6 with fail
  refine wp_region_mix (fun y => Below w1.heap.size w1 y) [7] (by kernel_rfl) (fun hcl => ?_)
  have hS : Below w1.heap.size w1 w1.drew := (Below.refl _ _).drew
  refine wpAnyT_take (i := 0) hcl rfl (by kernel_rfl) (v := ?_) (fun _ _ _ h => h) hS (Or.inl ⟨rfl, fun w' hS => ?_⟩) (fun hcl => ?_)
  rotate_left
  · skip
    have cx := (HB.out.2.below hS HB.out.2.lt).cell
    go_simp
    with_reducible rfl
  simp only [List.getElem_toArray, List.getElem_cons_zero, List.getElem_cons_succ, Act.put, List.setIfInBounds_toArray, List.set_cons_zero, List.set_cons_succ]
  refine wpAnyT_free (i := 1) hcl rfl (by kernel_rfl) (v := ?_) (fun _ _ _ h => h) hS (Or.inl ⟨rfl, fun w' _ => ?_⟩) (fun hcl => ?_)
  rotate_left
  · go_simp
    with_reducible rfl
  simp only [List.getElem_toArray, List.getElem_cons_zero, List.getElem_cons_succ, Act.put, List.setIfInBounds_toArray, List.set_cons_zero, List.set_cons_succ]
  refine wpAnyT_free (i := 2) hcl rfl (by kernel_rfl) (v := ?_) (fun _ _ _ h => h) hS (Or.inl ⟨rfl, fun w' _ => ?_⟩) (fun hcl => ?_)
  rotate_left
  · go_simp
    with_reducible rfl
  simp only [List.getElem_toArray, List.getElem_cons_zero, List.getElem_cons_succ, Act.put, List.setIfInBounds_toArray, List.set_cons_zero, List.set_cons_succ]
  refine wpAnyT_take (i := 3) hcl rfl (by kernel_rfl) (v := ?_) (fun _ _ _ h => h) hS (Or.inl ⟨rfl, fun w' hS => ?_⟩) (fun hcl => ?_)
  rotate_left
  · skip
    have cx := (HB.out.2.below hS HB.out.2.lt).cell
    go_simp
    with_reducible rfl
  simp only [List.getElem_toArray, List.getElem_cons_zero, List.getElem_cons_succ, Act.put, List.setIfInBounds_toArray, List.set_cons_zero, List.set_cons_succ]
  refine wpAnyT_free (i := 4) hcl rfl (by kernel_rfl) (v := ?_) (fun _ _ _ h => h) hS (Or.inl ⟨rfl, fun w' _ => ?_⟩) (fun hcl => ?_)
  rotate_left
  · go_simp
    with_reducible rfl
  simp only [List.getElem_toArray, List.getElem_cons_zero, List.getElem_cons_succ, Act.put, List.setIfInBounds_toArray, List.set_cons_zero, List.set_cons_succ]
  refine wpAnyT_step (i := 5) hcl rfl (by kernel_rfl) (fun hcl => ?_)
  simp only [List.getElem_toArray, List.getElem_cons_zero, List.getElem_cons_succ, Act.put, List.setIfInBounds_toArray, List.set_cons_zero, List.set_cons_succ]
  go_wp2_with fail
  replace hS : Below w1.heap.size w1 (w1.alloc (.cells (madeCells #[.bool false] p.sets.length) 4)).drew := ((Below.refl _ _).alloc (Nat.le_refl _) _).drew
  refine ⟨hS, ?_⟩
  refine wpAnyT_free (i := 6) hcl rfl (by kernel_rfl) (v := ?_) (fun _ _ _ h => h) hS (Or.inl ⟨rfl, fun w' _ => ?_⟩) (fun hcl => ?_)
  rotate_left
  · go_simp
    with_reducible rfl
  simp only [List.getElem_toArray, List.getElem_cons_zero, List.getElem_cons_succ, Act.put, List.setIfInBounds_toArray, List.set_cons_zero, List.set_cons_succ]
  refine wpAnyT_last (i := 7) hcl rfl (by kernel_rfl) (by kernel_rfl) (fun hcl => ?_)
  simp only [List.getElem_toArray, List.getElem_cons_zero, List.getElem_cons_succ, Act.put, List.setIfInBounds_toArray, List.set_cons_zero, List.set_cons_succ]
  go_wp2_with fail
  refine wpAnyT_last (i := 8) hcl rfl (by kernel_rfl) (by kernel_rfl) (fun hcl => ?_)
  simp only [List.getElem_toArray, List.getElem_cons_zero, List.getElem_cons_succ, Act.put, List.setIfInBounds_toArray, List.set_cons_zero, List.set_cons_succ]
  go_wp2_with fail
  refine wpAnyT_last (i := 9) hcl rfl (by kernel_rfl) (by kernel_rfl) (fun hcl => ?_)
  simp only [List.getElem_toArray, List.getElem_cons_zero, List.getElem_cons_succ, Act.put, List.setIfInBounds_toArray, List.set_cons_zero, List.set_cons_succ]
  go_wp2_with fail
  refine wpAnyT_done (by kernel_rfl) ?_ _
  go_wp2_with fail
  go_ret2
  have hw1 := HB.out.1.size
  have hw2 := HB.out.2.lt
  have hbx := Blk.new (w1.alloc (.cells (madeCells #[.bool false] p.sets.length) 4)) 89 #[.slice As p.sets.length ks, .int .i64 p.null, .slice Af p.first.length kf, .slice Al p.last.length kl, .slice Aw p.follow.length kw, .pointer (some ⟨sb, 0, none⟩), .slice none 0 0, .slice (some ⟨w1.heap.size, 0, none⟩) p.sets.length p.sets.length]
  rw [World.size_alloc] at hbx
  have hrow := BoRow.new w1 p.sets.length
  have hb1 := (Below.refl w1.heap.size w1).alloc (Nat.le_refl _) (.cells (madeCells #[.bool false] p.sets.length) 4)
  have hb2 := ((Below.refl (w1.alloc (.cells (madeCells #[.bool false] p.sets.length) 4)).heap.size (w1.alloc (.cells (madeCells #[.bool false] p.sets.length) 4))).alloc (Nat.le_refl _) (.cells #[.slice As p.sets.length ks, .int .i64 p.null, .slice Af p.first.length kf, .slice Al p.last.length kl, .slice Aw p.follow.length kw, .pointer (some ⟨sb, 0, none⟩), .slice none 0 0, .slice (some ⟨w1.heap.size, 0, none⟩) p.sets.length p.sets.length] 89)).drew
  have hbz := (Below.refl ((w1.alloc (.cells (madeCells #[.bool false] p.sets.length) 4)).alloc (.cells #[.slice As p.sets.length ks, .int .i64 p.null, .slice Af p.first.length kf, .slice Al p.last.length kl, .slice Aw p.follow.length kw, .pointer (some ⟨sb, 0, none⟩), .slice none 0 0, .slice (some ⟨w1.heap.size, 0, none⟩) p.sets.length p.sets.length] 89)).heap.size ((w1.alloc (.cells (madeCells #[.bool false] p.sets.length) 4)).alloc (.cells #[.slice As p.sets.length ks, .int .i64 p.null, .slice Af p.first.length kf, .slice Al p.last.length kl, .slice Aw p.follow.length kw, .pointer (some ⟨sb, 0, none⟩), .slice none 0 0, .slice (some ⟨w1.heap.size, 0, none⟩) p.sets.length p.sets.length] 89))).drew
  replace hbx := hbx.nxt hbz
  replace hrow := hrow.next hb2
  have hbA := HB.out.1.trans ((hb1.trans (hb2.mono hb1.size)).mono hw1)
  refine ⟨none, .inr (.inr ⟨rfl, HOk.out, by omega, by omega⟩), hbA, fun h => absurd rfl h, fun _ => ⟨w1.heap.size + 1, w1.heap.size, rfl, ⟨HPI.out.same (same_of_below hbA) (fun b h => h), HS.out.same (same_of_below hbA) HS.out.box.lt HS.out.row.lt, HS.out.box.lt, HS.out.row.lt, by omega, by omega, hrow, List.nodup_nil, by simp, hbx, OwnInts.nil _ _, fun h hh => by cases hh⟩⟩⟩
end Go.Proofs.YtlomjepemnlliaaDoor

/-! ## Run18 -/
namespace Go.Proofs.YtlomjepemnlliaaDoor
open Go.RowKit

def byteB (x : Sc) (i : Nat) : Nat := (x.text.data.toList.getD i 0).toNat
/-- The front behind d bytes from place a on; st tells at which of them a piece may begin. -/
def frontB (p : Po) (x : Sc) (a : Nat) (st : Nat → Bool) : Nat → Nat → Bool
  | 0 => fun _ => false
  | d + 1 => stepB p (x.mark (a + d)) (byteB x (a + d)) (st d) (frontB p x a st d)
/-- Does a piece end behind d bytes? -/
def endAt (p : Po) (x : Sc) (a : Nat) (st : Nat → Bool) (d : Nat) : Bool := endsB p (x.mark (a + d)) (st d) (frontB p x a st d)
/-- The ends in the first k places. -/
def endsUpto (p : Po) (x : Sc) (a : Nat) (st : Nat → Bool) (k : Nat) : List Int := ((List.range k).filter (endAt p x a st)).map fun d => ((a + d : Nat) : Int)
/-- A piece begins at the first place alone. -/
def st0 (d : Nat) : Bool := d == 0
def endList (p : Po) (x : Sc) (a : Nat) : List Int := endsUpto p x a st0 (x.len + 1 - a)

theorem endsUpto_succ (p : Po) (x : Sc) (a : Nat) (st : Nat → Bool) (k : Nat) : endsUpto p x a st (k + 1) = endsUpto p x a st k ++ if endAt p x a st k = true then [((a + k : Nat) : Int)] else [] := by
  unfold endsUpto
  rw [List.range_succ, List.filter_append, List.map_append]
  cases h : endAt p x a st k <;> simp [h]
theorem endsUpto_len (p : Po) (x : Sc) (a : Nat) (st : Nat → Bool) (k : Nat) : (endsUpto p x a st k).length ≤ k := by
  unfold endsUpto
  rw [List.length_map]
  have := List.length_filter_le (endAt p x a st) (List.range k)
  simpa using this
theorem stepB_none {p : Po} {m b : Nat} {F : Nat → Bool} (h : ∀ q, F q = false) (q : Nat) : stepB p m b false F q = false := by
  unfold stepB
  rw [Bool.false_and, Bool.false_or]
  cases hh : (List.range p.sets.length).any fun k => F k && leads p m b (p.follow.getD k []) q with
  | false => rfl
  | true =>
    rw [List.any_eq_true] at hh
    obtain ⟨k, _, h2⟩ := hh
    rw [h k] at h2
    cases h2
theorem endsB_none {p : Po} {m : Nat} {F : Nat → Bool} (h : ∀ q, F q = false) : endsB p m false F = false := by
  unfold endsB
  rw [Bool.false_and, Bool.false_or]
  cases hh : p.last.any fun e => F e.1.toNat && e.2.toNat.testBit m with
  | false => rfl
  | true =>
    rw [List.any_eq_true] at hh
    obtain ⟨k, _, h2⟩ := hh
    rw [h _] at h2
    cases h2
theorem frontB_stop {p : Po} {x : Sc} {a : Nat} {st : Nat → Bool} {k : Nat} (h : ∀ q, frontB p x a st k q = false) (hs : ∀ d, k ≤ d → st d = false) : ∀ j q, frontB p x a st (k + j) q = false
  | 0, q => h q
  | j + 1, q => by
    rw [← Nat.add_assoc, frontB, hs (k + j) (by omega)]
    exact stepB_none (frontB_stop h hs j) q
theorem endsUpto_stop {p : Po} {x : Sc} {a : Nat} {st : Nat → Bool} {k : Nat} (h : ∀ q, frontB p x a st k q = false) (hs : ∀ d, k ≤ d → st d = false) : ∀ j, endsUpto p x a st (k + j) = endsUpto p x a st k
  | 0 => rfl
  | j + 1 => by
    have he : endAt p x a st (k + j) = false := by
      unfold endAt
      rw [hs (k + j) (by omega)]
      exact endsB_none (frontB_stop h hs j)
    rw [← Nat.add_assoc, endsUpto_succ, endsUpto_stop h hs j, he]
    simp
theorem endsUpto_bd {p : Po} {x : Sc} {a : Nat} {st : Nat → Bool} {k : Nat} {z : Int} (h : z ∈ endsUpto p x a st k) : ∃ d, d < k ∧ z = ((a + d : Nat) : Int) ∧ endAt p x a st d = true := by
  unfold endsUpto at h
  obtain ⟨d, h1, rfl⟩ := List.mem_map.1 h
  rw [List.mem_filter, List.mem_range] at h1
  exact ⟨d, h1.1, rfl, h1.2⟩
end Go.Proofs.YtlomjepemnlliaaDoor

/-! ## Walk18 -/
namespace Go.Proofs.YtlomjepemnlliaaDoor
open Go.RowKit

/-- What Ends answers. -/
def Ended18 (p : Po) (x : Sc) (q : Int) (a : Nat → Addr) (w : World) (e : Ending) (w' : World) : Prop :=
  ∃ (g : Option Nat) (v : Value) (r : List Int), e = .returned (.tuple #[v, walkErr a g]) ∧ Asked18 p x q g ∧ OwnInts w.heap.size w' v r ∧ (g = none → r = endList p x q.toNat) ∧ (g ≠ none → r = []) ∧ Below w.heap.size w w'

theorem WkAt.grown {p : Po} {pa : PoA} {x : Sc} {sb sm n g gi B0 : Nat} {L : List Nat} {fv : Value} {y y' : World} (h : WkAt p pa x sb sm n g gi B0 L fv y) (hs : Same (fun b => b < y.heap.size ∧ (b < B0 ∨ b = g ∨ b = gi ∨ fv.ownBlock = some b)) y y') : WkAt p pa x sb sm n g gi B0 L fv y' := by
  have hB : Same (· < B0) y y' := hs.mono fun b hb => ⟨Nat.lt_of_lt_of_le hb (Nat.le_trans h.kg (Nat.le_of_lt h.box.lt)), .inl hb⟩
  refine ⟨h.po.same hB fun b h => h, h.sc.same hB h.ksb h.ksm, h.ksb, h.ksm, h.kg, h.ki, h.row.same hs ⟨h.row.lt, .inr (.inr (.inl rfl))⟩, h.nodup, h.lt, h.box.same hs ⟨h.box.lt, .inr (.inl rfl)⟩, h.own.same hs fun k hk => ⟨(World.ownsRow.lt h.own k hk).2, .inr (.inr (.inr hk))⟩, h.ne⟩

set_option maxRecDepth 100000 in
set_option maxHeartbeats 4000000 in
theorem walkEnds_any (p : Po) (pa : PoA) (x : Sc) (sb sm : Nat) (q : Int) (a : Nat → Addr) (w : World) (hwf : p.wf) (hin : PoIn (· < w.heap.size) w p pa) (hsc : Scn w sb sm x) (hE : Sent [12, 14] w a) (hq : IsI64 q) (hn6 : p.Ok → p.sets.length < 1000000) (hx6 : x.len < 900000) :
    Calls Tryd.prog 14 #[.agg (p.cells pa).toArray, .pointer (some ⟨sb, 0, none⟩), .int .i64 q] w (Ended18 p x q a w) := by
  have hne := fun y ad => run_neq_iface_nil (P := Tryd.prog) (w := y) 37 (by kernel_rfl) 161 (.pointer (some ad))
  have hnn := fun y => run_neq_nil_nil_at (P := Tryd.prog) (w := y) 37 (by kernel_rfl)
  have HA := hide (fun y (hy : Below w.heap.size w y) => asked18_any p pa x sb sm q a y hwf (hin.next hy) (hsc.below hy) (hE.below hy) hq (fun h => Nat.le_of_lt (hn6 h)))
  have HWF := hide hwf
  have HSC := hide hsc
  clear hwf hin hE hsc
  obtain ⟨q1, q2⟩ := hq
  simp only [Po.cells] at HA ⊢
  have hbp := Blk.new w 26 #[.slice pa.s p.sets.length pa.cs, .int .i64 p.null, .slice pa.f p.first.length pa.cf, .slice pa.l p.last.length pa.cl, .slice pa.w p.follow.length pa.cw]
  have hbel := (Below.refl w.heap.size w).alloc (Nat.le_refl _) (.cells #[.slice pa.s p.sets.length pa.cs, .int .i64 p.null, .slice pa.f p.first.length pa.cf, .slice pa.l p.last.length pa.cl, .slice pa.w p.follow.length pa.cw] 26)
  go_enter Tryd.func14, Tryd.ntmps14
  go_wp2_with fail
  refine (HA.out _ hbel).mono ?_
  rintro e w1 ⟨g, hg, hb, hsome, hnone⟩
  have HB := hide (hbel.trans (hb.mono hbel.size))
  have hbs := hbel.size
  clear HA hbp
  cases g with
  | some k =>
    obtain rfl := hsome (by simp)
    have HG := hide hg
    clear hg hsome hnone hb hbel
    simp only [walkErr, errV]
    go_wp2_with fail
    go_ret2
    exact ⟨some k, _, [], rfl, HG.out, OwnInts.nil _ _, (fun h => by cases h), fun _ => rfl, HB.out⟩
  | none =>
  obtain ⟨gb, gi, rfl, hwk⟩ := hnone rfl
  have hok : p.Ok ∧ 0 ≤ q ∧ q ≤ x.len := by
    rcases hg with ⟨h, _⟩ | ⟨h, _⟩ | ⟨_, h⟩
    · cases h
    · cases h
    · exact h
  have HG := hide hg
  obtain ⟨i, hi⟩ : ∃ i : Nat, q = i := ⟨q.toNat, by omega⟩
  subst hi
  have hix : i ≤ x.len := by omega
  have HOk := hide hok.1
  replace hn6 := hn6 hok.1
  clear hg hok hsome hnone
  have HW0 := hide hwk
  generalize (w.alloc (.cells #[.slice pa.s p.sets.length pa.cs, .int .i64 p.null, .slice pa.f p.first.length pa.cf, .slice pa.l p.last.length pa.cl, .slice pa.w p.follow.length pa.cw] 26)) = W0 at *
  have hB0w := hb.size
  clear hwk hb hbel
  go_wp2_with fail
  go_loopw [10, 11] (fun lv iv wr => ∃ (d : Nat) (L : List Nat) (fv : Value), iv = .int .i64 ((i : Int) + (d : Int)) ∧ i + d ≤ x.len + 1 ∧ OwnInts w.heap.size wr lv (endsUpto p x i st0 d) ∧ WkAt p pa x sb sm p.sets.length gb gi W0.heap.size L fv wr ∧ (i + d ≤ x.len → ∀ z, z ∈ L ↔ frontB p x i st0 d z = true) ∧ (∀ h, fv.ownBlock = some h → lv.ownBlock ≠ some h) ∧ (∀ h, lv.ownBlock = some h → W0.heap.size ≤ h) ∧ Below w.heap.size w wr ∧ W0.heap.size ≤ wr.heap.size) (fun _ iv _ => x.len + 1 - (intOf iv).toNat)
  case atStart => exact ⟨0, [], _, by simp, by omega, OwnInts.nil _ _, HW0.out, (fun _ z => by simp [frontB]), (fun h hh => by cases hh), (fun h hh => by cases hh), HB.out, by omega⟩
  case round =>
    clear HB HW0
    obtain ⟨d, L, fv, rfl, hd, hown, hwk, hF, hdis, hlow, hbel, hsz⟩ := hrel
    have HLen := hide (slen_any hwk.sc)
    by_cases hlt : i + d ≤ x.len
    case neg =>
      have g1 : decide ((i : Int) + (d : Int) ≤ (x.len : Int)) = false := decide_eq_false (by omega)
      have hlist : endsUpto p x i st0 d = endList p x i := by unfold endList; rw [show x.len + 1 - i = d by omega]
      rw [hlist] at hown
      have HF := hide (And.intro hown hbel)
      clear hown hwk hF hdis hlow hbel
      go_wp2_with fail
      refine HLen.out.mono ?_
      rintro e w2 ⟨rfl, rfl⟩
      go_wp2_with fail
      go_ret2
      exact ⟨none, _, _, rfl, HG.out, HF.out.1, (fun _ => by rw [Int.toNat_natCast]), fun h => absurd rfl h, HF.out.2⟩
    have g1 : decide ((i : Int) + (d : Int) ≤ (x.len : Int)) = true := decide_eq_true (by omega)
    have hst : ((i : Int) + (d : Int) == (i : Int)) = st0 d := by
      unfold st0
      rw [Bool.eq_iff_iff, beq_iff_eq, beq_iff_eq]
      omega
    have hcast : ((i + d : Nat) : Int) = (i : Int) + (d : Int) := by omega
    have HEn := hide (ends18_any p pa x sb sm p.sets.length gb gi W0.heap.size L fv wr (i + d) (st0 d) hlt rfl hn6 HWF.out HOk.out hwk hsz (frontB p x i st0 d) (hF hlt))
    rw [hcast, show endsB p (x.mark (i + d)) (st0 d) (frontB p x i st0 d) = endAt p x i st0 d from rfl] at HEn
    have HST := hide (fun (L : List Nat) (fv : Value) (y : World) (h1 : i + d < x.len) h2 h3 h4 => step18_any p pa x sb sm p.sets.length gb gi W0.heap.size L fv y (i + d) (st0 d) h1 rfl hn6 HWF.out HOk.out h2 h3 (frontB p x i st0 d) h4)
    rw [hcast] at HST
    obtain ⟨en, hen⟩ : ∃ b, b = endAt p x i st0 d := ⟨_, rfl⟩
    rw [← hen] at HEn
    have hes : endsUpto p x i st0 (d + 1) = endsUpto p x i st0 d ++ if en = true then [(i : Int) + (d : Int)] else [] := by rw [endsUpto_succ, ← hen, hcast]
    have hel := endsUpto_len p x i st0 d
    have HH := hide (And.intro hown (And.intro hwk (And.intro (hF hlt) (And.intro hdis (And.intro hlow (And.intro hbel hes))))))
    clear hown hwk hF hdis hlow hbel hes hen
    go_wp2_with fail
    refine HLen.out.mono ?_
    rintro e w2 ⟨rfl, rfl⟩
    rename World => W1
    go_wp2_with (simp only [hst])
    refine HEn.out.mono ?_
    rintro e w2 ⟨rfl, hb⟩
    have hwk2 := HH.out.2.1.grown ((same_of_below hb).mono fun b h => h.1)
    have hown2 := HH.out.1.below hb (Nat.le_refl _)
    have hz2 := hb.size
    have H2 := hide (And.intro hwk2 (And.intro hown2 (HH.out.2.2.2.2.2.1.trans (hb.mono HH.out.2.2.2.2.2.1.size))))
    clear hb hwk2 hown2 HEn
    go_upto_if 34 with fail
    go_cut [10] (fun lz wx => ∃ (A : Option Addr) (c : Nat), lz = .slice A (endsUpto p x i st0 (d + 1)).length c ∧ OwnInts w.heap.size wx (.slice A (endsUpto p x i st0 (d + 1)).length c) (endsUpto p x i st0 (d + 1)) ∧ WkAt p pa x sb sm p.sets.length gb gi W0.heap.size L fv wx ∧ (∀ h, fv.ownBlock = some h → (Value.slice A (endsUpto p x i st0 (d + 1)).length c).ownBlock ≠ some h) ∧ (∀ h, (Value.slice A (endsUpto p x i st0 (d + 1)).length c).ownBlock = some h → W0.heap.size ≤ h) ∧ Below w.heap.size w wx ∧ W0.heap.size ≤ wx.heap.size)
    case first =>
      cases en with
      | false =>
        have he2 : endsUpto p x i st0 (d + 1) = endsUpto p x i st0 d := by rw [HH.out.2.2.2.2.2.2]; simp
        go_wp2_with fail
        go_meet
        case rel =>
          rw [he2]
          obtain ⟨A, c, e, _, _⟩ := H2.out.2.1.form
          rw [e] at H2 ⊢
          have h5 := HH.out.2.2.2.1
          have h6 := HH.out.2.2.2.2.1
          rw [e] at h5 h6
          exact ⟨A, c, rfl, H2.out.2.1, H2.out.1, h5, h6, H2.out.2.2, by omega⟩
      | true =>
        have he2 : endsUpto p x i st0 (d + 1) = endsUpto p x i st0 d ++ [(i : Int) + (d : Int)] := by rw [HH.out.2.2.2.2.2.2]; simp
        have hal := (Below.refl w2.heap.size w2).alloc (Nat.le_refl _) (.cells #[.int .i64 ((i : Int) + (d : Int))] 3)
        have hoA := hide (H2.out.2.1.below hal (Nat.le_refl _))
        have hlen : (endsUpto p x i st0 d).length < 1000000 := by omega
        have hw2s := H2.out.2.2.size
        have HE2 := hide he2
        clear he2
        go_wp2_with (at_builtin; refine wpList_push_int rfl _ _ rfl w.heap.size _ _ rfl hoA.out ((i : Int) + (d : Int)) w2.heap.size 1 rfl (Blk.new _ _ _) hlen (by simp; omega) ?_)
        intro v' w5 hown5 hg5 hv5
        obtain ⟨A5, c5, rfl, _, _⟩ := hown5.form
        have hsz5 := hg5.size
        simp only [World.size_alloc] at hsz5
        have hs5 : Same (fun b => b < w2.heap.size ∧ (b < W0.heap.size ∨ b = gb ∨ b = gi ∨ fv.ownBlock = some b)) w2 w5 := fun b hb => (hg5.block b (by simp; omega) (fun e => by
          rcases hb.2 with h | h | h | h
          · have := HH.out.2.2.2.2.1 b e.symm; omega
          · exact H2.out.2.1.ne_type H2.out.1.box (by decide) b e.symm h
          · obtain ⟨row, hr, _⟩ := H2.out.1.row
            exact H2.out.2.1.ne_type hr (by decide) b e.symm h
          · exact HH.out.2.2.2.1 b h e.symm)).trans (same_of_below hal b hb.1)
        have hb5 : Below w.heap.size w w5 := below_grew (H2.out.2.2.alloc (by omega) (.cells #[.int .i64 ((i : Int) + (d : Int))] 3)) hg5 (Nat.le_refl _) (fun g hg => by have := HH.out.2.2.2.2.1 g hg; omega)
        have H5 := hide (And.intro hown5 (And.intro (H2.out.1.grown hs5) (And.intro hb5 hv5)))
        clear hown5 hg5 hs5 hb5 hv5 hoA hal
        go_wp2_with fail
        go_meet
        case rel =>
          rw [HE2.out]
          refine ⟨A5, c5, rfl, H5.out.1, H5.out.2.1, fun h hh e => ?_, fun h hh => ?_, H5.out.2.2.1, by omega⟩
          · rcases H5.out.2.2.2 with e2 | e2
            · rw [e2] at e; exact HH.out.2.2.2.1 h hh e
            · rw [e2] at e
              have := (World.ownsRow.lt H2.out.1.own h hh).2
              simp only [World.size_alloc, Option.some.injEq] at e
              omega
          · rcases H5.out.2.2.2 with e2 | e2
            · rw [e2] at hh; exact HH.out.2.2.2.2.1 h hh
            · rw [e2] at hh
              simp only [World.size_alloc, Option.some.injEq] at hh
              omega
    case rest =>
    obtain ⟨A, c, rfl, hown, hwk, hdis, hlow, hbel, hsz3⟩ := hcut
    have HLen2 := hide (slen_any hwk.sc)
    have hmF := HH.out.2.2.1
    have hel1 := endsUpto_len p x i st0 (d + 1)
    generalize hll : (endsUpto p x i st0 (d + 1)).length = ll at *
    have H3 := hide (And.intro hown (And.intro hwk (And.intro hdis (And.intro hlow (And.intro hbel hmF)))))
    have HLL := hide hll
    clear hown hwk hdis hlow hbel hmF hll H2 HH HLen
    by_cases hll2 : i + d < x.len
    · have g2 : decide ((i : Int) + (d : Int) < (x.len : Int)) = true := decide_eq_true (by omega)
      go_wp2_with fail
      refine HLen2.out.mono ?_
      rintro e w3 ⟨rfl, rfl⟩
      go_wp2_with (simp only [hst])
      refine (HST.out L fv _ hll2 H3.out.2.1 hsz3 H3.out.2.2.2.2.2).mono ?_
      rintro e w3 ⟨rfl, L', fv', hwk', hF', hb', hnew, hsame⟩
      rename World => W3
      have hown3 : OwnInts w.heap.size W3 (.slice A ll c) (endsUpto p x i st0 (d + 1)) := H3.out.1.same hsame fun k hk => ⟨(World.ownsRow.lt H3.out.1 k hk).2, H3.out.1.ne_type H3.out.2.1.box (by decide) k hk, by
        obtain ⟨row, hr, _⟩ := H3.out.2.1.row
        exact H3.out.1.ne_type hr (by decide) k hk⟩
      have hbel3 := H3.out.2.2.2.2.1.trans (hb'.mono (by omega))
      have hz3 := hb'.size
      obtain ⟨FA, Fc, hfv, _, _⟩ := hwk'.own.form
      rw [List.length_map] at hfv
      have hdis3 : ∀ h, fv'.ownBlock = some h → (Value.slice A ll c).ownBlock ≠ some h := fun h hh e => by
        have := hnew h hh
        have := (World.ownsRow.lt H3.out.1 h e).2
        omega
      have hF3 : ∀ z, z ∈ L' ↔ frontB p x i st0 (d + 1) z = true := hF'
      subst hfv
      have cg := hwk'.box.cell
      have H4 := hide (And.intro hown3 (And.intro hwk' (And.intro hdis3 (And.intro hbel3 hF3))))
      clear hown3 hwk' hdis3 hbel3 hF3 hF' hb' hnew hsame
      by_cases hnil : L' = []
      · subst hnil
        have hlist : endList p x i = endsUpto p x i st0 (d + 1) := by
          unfold endList
          rw [show x.len + 1 - i = (d + 1) + (x.len - i - d) by omega]
          refine endsUpto_stop (fun z => ?_) (fun k hk => by unfold st0; exact beq_false_of_ne (by omega)) _
          cases hz : frontB p x i st0 (d + 1) z with
          | false => rfl
          | true => have := (H4.out.2.2.2.2 z).2 hz; simp at this
        have HLI := hide hlist
        clear hlist
        go_wp2_with fail
        go_ret2
        exact ⟨none, _, _, rfl, HG.out, H4.out.1, (fun _ => by rw [Int.toNat_natCast, HLI.out]), fun h => absurd rfl h, H4.out.2.2.2.1⟩
      · have hpos : 0 < L'.length := List.length_pos_iff.2 hnil
        have g3 : ((L'.length : Int) == 0) = false := beq_false_of_ne (by omega)
        go_wp2_with fail
        go_roundw
        case rel => exact ⟨d + 1, L', _, by go_num, by omega, H4.out.1, H4.out.2.1, fun _ => H4.out.2.2.2.2, H4.out.2.2.1, H3.out.2.2.2.1, H4.out.2.2.2.1, by omega⟩
        case measure => simp [intOf]; omega
    · have g2 : decide ((i : Int) + (d : Int) < (x.len : Int)) = false := decide_eq_false (by omega)
      obtain ⟨FA, Fc, hfv, _, _⟩ := H3.out.2.1.own.form
      rw [List.length_map] at hfv
      subst hfv
      have cg := H3.out.2.1.box.cell
      have hlist : endList p x i = endsUpto p x i st0 (d + 1) := by
        unfold endList
        rw [show x.len + 1 - i = d + 1 by omega]
      have HLI := hide hlist
      clear hlist
      by_cases hnil : L = []
      · subst hnil
        go_wp2_with fail
        refine HLen2.out.mono ?_
        rintro e w3 ⟨rfl, rfl⟩
        go_wp2_with fail
        go_ret2
        exact ⟨none, _, _, rfl, HG.out, H3.out.1, (fun _ => by rw [Int.toNat_natCast, HLI.out]), fun h => absurd rfl h, H3.out.2.2.2.2.1⟩
      · have hpos : 0 < L.length := List.length_pos_iff.2 hnil
        have g3 : ((L.length : Int) == 0) = false := beq_false_of_ne (by omega)
        go_wp2_with fail
        refine HLen2.out.mono ?_
        rintro e w3 ⟨rfl, rfl⟩
        go_wp2_with fail
        go_roundw
        case rel => exact ⟨d + 1, L, _, by go_num, by omega, H3.out.1, H3.out.2.1, fun h => by omega, H3.out.2.2.1, H3.out.2.2.2.1, H3.out.2.2.2.2.1, by omega⟩
        case measure => simp [intOf]; omega
end Go.Proofs.YtlomjepemnlliaaDoor

/-! ## Any18 -/
namespace Go.Proofs.YtlomjepemnlliaaDoor
open Go.RowKit

/-- A place, and whether there is one. -/
def PlaceIs (z : Option Int) (n : Int) (ok : Bool) : Prop := (z = none ∧ n = 0 ∧ ok = false) ∨ (z = some n ∧ ok = true)
/-- What Longest and Any answer: a place, whether there is one, the error. -/
def Placed18 (p : Po) (x : Sc) (q : Int) (z : Option Int) (a : Nat → Addr) (w : World) (e : Ending) (w' : World) : Prop :=
  ∃ (g : Option Nat) (n : Int) (ok : Bool), e = .returned (.tuple #[.int .i64 n, .bool ok, walkErr a g]) ∧ Asked18 p x q g ∧ (g = none → PlaceIs z n ok) ∧ (g ≠ none → n = 0 ∧ ok = false) ∧ Below w.heap.size w w'

set_option maxRecDepth 100000 in
set_option maxHeartbeats 2000000 in
theorem longest_any (p : Po) (pa : PoA) (x : Sc) (sb sm : Nat) (q : Int) (a : Nat → Addr) (w : World) (hwf : p.wf) (hin : PoIn (· < w.heap.size) w p pa) (hsc : Scn w sb sm x) (hE : Sent [12, 14] w a) (hq : IsI64 q) (hn6 : p.Ok → p.sets.length < 1000000) (hx6 : x.len < 900000) :
    Calls Tryd.prog 15 #[.agg (p.cells pa).toArray, .pointer (some ⟨sb, 0, none⟩), .int .i64 q] w (Placed18 p x q (endList p x q.toNat)[(endList p x q.toNat).length - 1]? a w) := by
  have hne := fun y ad => run_neq_iface_nil (P := Tryd.prog) (w := y) 37 (by kernel_rfl) 161 (.pointer (some ad))
  have hnn := fun y => run_neq_nil_nil_at (P := Tryd.prog) (w := y) 37 (by kernel_rfl)
  have HA := hide (fun y (hy : Below w.heap.size w y) => walkEnds_any p pa x sb sm q a y hwf (hin.next hy) (hsc.below hy) (hE.below hy) hq hn6 hx6)
  clear hwf hin hE hsc
  obtain ⟨q1, q2⟩ := hq
  simp only [Po.cells] at HA ⊢
  have hel : (endList p x q.toNat).length ≤ 9223372036854775807 := by have := endsUpto_len p x q.toNat st0 (x.len + 1 - q.toNat); unfold endList; omega
  have hbel := (Below.refl w.heap.size w).alloc (Nat.le_refl _) (.cells #[.slice pa.s p.sets.length pa.cs, .int .i64 p.null, .slice pa.f p.first.length pa.cf, .slice pa.l p.last.length pa.cl, .slice pa.w p.follow.length pa.cw] 26)
  go_enter Tryd.func15, Tryd.ntmps15
  go_wp2_with fail
  refine (HA.out _ hbel).mono ?_
  rintro e w1 ⟨g, v, r, rfl, hg, hown, hr, hr0, hb⟩
  have HB := hide (And.intro (hbel.trans (hb.mono hbel.size)) hg)
  obtain ⟨A, c, rfl, hl, hc⟩ := hown.form
  clear HA hb hbel hg hown
  cases g with
  | some k =>
    obtain rfl := hr0 (by simp)
    clear hr hr0
    simp only [walkErr, errV]
    go_wp2_with fail
    go_ret3
    exact ⟨some k, 0, false, rfl, HB.out.2, (fun h => by cases h), (fun _ => ⟨rfl, rfl⟩), HB.out.1⟩
  | none =>
  obtain hrl := hr rfl
  clear hr hr0
  simp only [walkErr]
  by_cases hnil : r = []
  · subst hnil
    have HRL := hide hrl
    clear hrl hc
    go_wp2_with fail
    go_ret3
    exact ⟨none, 0, false, rfl, HB.out.2, (fun _ => .inl ⟨by rw [← HRL.out]; rfl, rfl, rfl⟩), (fun h => absurd rfl h), HB.out.1⟩
  · have hpos : 0 < r.length := List.length_pos_iff.2 hnil
    have g3 : ((r.length : Int) == 0) = false := beq_false_of_ne (by omega)
    have hj := List.getElem?_eq_getElem (show r.length - 1 < r.length by omega)
    have hz : (endList p x q.toNat)[(endList p x q.toNat).length - 1]? = some (r[r.length - 1]'(by omega)) := by rw [← hrl]; exact hj
    generalize r[r.length - 1]'(by omega) = z at *
    obtain ⟨gl, rfl, _, _, cl⟩ := hc _ _ hj
    obtain ⟨n1, hn1⟩ : ∃ n1, r.length = n1 + 1 := ⟨r.length - 1, by omega⟩
    have HZ := hide hz
    clear hz hj hrl hc
    rw [hn1] at cl hl g3 ⊢
    simp only [Nat.add_sub_cancel] at cl
    have hsub : ((n1 + 1 : Nat) : Int) - 1 = (n1 : Int) := by omega
    clear hn1 hpos
    go_wp2_with fail
    go_ret3
    exact ⟨none, z, true, rfl, HB.out.2, (fun _ => .inr ⟨HZ.out, rfl⟩), (fun h => absurd rfl h), HB.out.1⟩

/-- A piece may begin at each place. -/
def st1 (d : Nat) : Bool := true
def anyList (p : Po) (x : Sc) (a : Nat) : List Int := endsUpto p x a st1 (x.len + 1 - a)
theorem endsUpto_head {p : Po} {x : Sc} {a : Nat} {st : Nat → Bool} {k : Nat} (h : endsUpto p x a st k = []) (he : endAt p x a st k = true) : ∀ j, (endsUpto p x a st (k + 1 + j))[0]? = some ((a + k : Nat) : Int)
  | 0 => by rw [Nat.add_zero, endsUpto_succ, h, he]; rfl
  | j + 1 => by
    rw [← Nat.add_assoc, endsUpto_succ]
    have := endsUpto_head h he j
    rw [List.getElem?_append_left (by have := (List.getElem?_eq_some_iff.1 this).1; exact this)]
    exact this

set_option maxRecDepth 100000 in
set_option maxHeartbeats 4000000 in
theorem walkAny_any (p : Po) (pa : PoA) (x : Sc) (sb sm : Nat) (q : Int) (a : Nat → Addr) (w : World) (hwf : p.wf) (hin : PoIn (· < w.heap.size) w p pa) (hsc : Scn w sb sm x) (hE : Sent [12, 14] w a) (hq : IsI64 q) (hn6 : p.Ok → p.sets.length < 1000000) (hx6 : x.len < 900000) :
    Calls Tryd.prog 20 #[.agg (p.cells pa).toArray, .pointer (some ⟨sb, 0, none⟩), .int .i64 q] w (Placed18 p x q (anyList p x q.toNat)[0]? a w) := by
  have hne := fun y ad => run_neq_iface_nil (P := Tryd.prog) (w := y) 37 (by kernel_rfl) 161 (.pointer (some ad))
  have hnn := fun y => run_neq_nil_nil_at (P := Tryd.prog) (w := y) 37 (by kernel_rfl)
  have HA := hide (fun y (hy : Below w.heap.size w y) => asked18_any p pa x sb sm q a y hwf (hin.next hy) (hsc.below hy) (hE.below hy) hq (fun h => Nat.le_of_lt (hn6 h)))
  have HWF := hide hwf
  clear hwf hin hE hsc
  obtain ⟨q1, q2⟩ := hq
  simp only [Po.cells] at HA ⊢
  have hbel := (Below.refl w.heap.size w).alloc (Nat.le_refl _) (.cells #[.slice pa.s p.sets.length pa.cs, .int .i64 p.null, .slice pa.f p.first.length pa.cf, .slice pa.l p.last.length pa.cl, .slice pa.w p.follow.length pa.cw] 26)
  go_enter Tryd.func20, Tryd.ntmps20
  go_wp2_with fail
  refine (HA.out _ hbel).mono ?_
  rintro e w1 ⟨g, hg, hb, hsome, hnone⟩
  have HB := hide (hbel.trans (hb.mono hbel.size))
  have hbs := hbel.size
  clear HA
  cases g with
  | some k =>
    obtain rfl := hsome (by simp)
    have HG := hide hg
    clear hg hsome hnone hb hbel
    simp only [walkErr, errV]
    go_wp2_with fail
    go_ret3
    exact ⟨some k, 0, false, rfl, HG.out, (fun h => by cases h), (fun _ => ⟨rfl, rfl⟩), HB.out⟩
  | none =>
  obtain ⟨gb, gi, rfl, hwk⟩ := hnone rfl
  have hok : p.Ok ∧ 0 ≤ q ∧ q ≤ x.len := by
    rcases hg with ⟨h, _⟩ | ⟨h, _⟩ | ⟨_, h⟩
    · cases h
    · cases h
    · exact h
  have HG := hide hg
  obtain ⟨i, hi⟩ : ∃ i : Nat, q = i := ⟨q.toNat, by omega⟩
  subst hi
  have hix : i ≤ x.len := by omega
  have HOk := hide hok.1
  replace hn6 := hn6 hok.1
  clear hg hok hsome hnone
  have HW0 := hide hwk
  generalize (w.alloc (.cells #[.slice pa.s p.sets.length pa.cs, .int .i64 p.null, .slice pa.f p.first.length pa.cf, .slice pa.l p.last.length pa.cl, .slice pa.w p.follow.length pa.cw] 26)) = W0 at *
  have hB0w := hb.size
  clear hwk hb hbel
  go_wp2_with fail
  go_loopw [11] (fun iv wr => ∃ (d : Nat) (L : List Nat) (fv : Value), iv = .int .i64 ((i : Int) + (d : Int)) ∧ i + d ≤ x.len + 1 ∧ endsUpto p x i st1 d = [] ∧ WkAt p pa x sb sm p.sets.length gb gi W0.heap.size L fv wr ∧ (i + d ≤ x.len → ∀ z, z ∈ L ↔ frontB p x i st1 d z = true) ∧ Below w.heap.size w wr ∧ W0.heap.size ≤ wr.heap.size) (fun iv _ => x.len + 1 - (intOf iv).toNat)
  case atStart => exact ⟨0, [], _, by simp, by omega, rfl, HW0.out, (fun _ z => by simp [frontB]), HB.out, by omega⟩
  case round =>
    clear HB HW0
    obtain ⟨d, L, fv, rfl, hd, hemp, hwk, hF, hbel, hsz⟩ := hrel
    have HLen := hide (slen_any hwk.sc)
    by_cases hlt : i + d ≤ x.len
    case neg =>
      have g1 : decide ((i : Int) + (d : Int) ≤ (x.len : Int)) = false := decide_eq_false (by omega)
      have hlist : anyList p x i = [] := by unfold anyList; rw [show x.len + 1 - i = d by omega]; exact hemp
      have HF := hide (And.intro hlist hbel)
      clear hlist hwk hF hbel hemp
      go_wp2_with fail
      refine HLen.out.mono ?_
      rintro e w2 ⟨rfl, rfl⟩
      go_wp2_with fail
      go_ret3
      exact ⟨none, 0, false, rfl, HG.out, (fun _ => .inl ⟨by rw [Int.toNat_natCast, HF.out.1]; rfl, rfl, rfl⟩), (fun h => absurd rfl h), HF.out.2⟩
    have g1 : decide ((i : Int) + (d : Int) ≤ (x.len : Int)) = true := decide_eq_true (by omega)
    have hcast : ((i + d : Nat) : Int) = (i : Int) + (d : Int) := by omega
    have HEn := hide (ends18_any p pa x sb sm p.sets.length gb gi W0.heap.size L fv wr (i + d) true hlt rfl hn6 HWF.out HOk.out hwk hsz (frontB p x i st1 d) (hF hlt))
    rw [hcast, show endsB p (x.mark (i + d)) true (frontB p x i st1 d) = endAt p x i st1 d from rfl] at HEn
    have HST := hide (fun (L : List Nat) (fv : Value) (y : World) (h1 : i + d < x.len) h2 h3 h4 => step18_any p pa x sb sm p.sets.length gb gi W0.heap.size L fv y (i + d) true h1 rfl hn6 HWF.out HOk.out h2 h3 (frontB p x i st1 d) h4)
    rw [hcast] at HST
    obtain ⟨en, hen⟩ : ∃ b, b = endAt p x i st1 d := ⟨_, rfl⟩
    rw [← hen] at HEn
    have HH := hide (And.intro hwk (And.intro (hF hlt) (And.intro hbel (And.intro hemp hen))))
    clear hwk hF hbel hemp hen
    go_wp2_with fail
    refine HLen.out.mono ?_
    rintro e w2 ⟨rfl, rfl⟩
    rename World => W1
    go_wp2_with fail
    refine HEn.out.mono ?_
    rintro e w2 ⟨rfl, hb⟩
    have hwk2 := HH.out.1.grown ((same_of_below hb).mono fun b h => h.1)
    have hz2 := hb.size
    have H2 := hide (And.intro hwk2 (HH.out.2.2.1.trans (hb.mono HH.out.2.2.1.size)))
    clear hb hwk2 HEn
    cases en with
    | true =>
      have hhead : (anyList p x i)[0]? = some ((i : Int) + (d : Int)) := by
        unfold anyList
        rw [show x.len + 1 - i = d + 1 + (x.len - i - d) by omega, endsUpto_head HH.out.2.2.2.1 HH.out.2.2.2.2.symm, hcast]
      have HD := hide hhead
      clear hhead
      go_wp2_with fail
      go_ret3
      exact ⟨none, _, true, rfl, HG.out, (fun _ => .inr ⟨by rw [Int.toNat_natCast]; exact HD.out, rfl⟩), (fun h => absurd rfl h), H2.out.2⟩
    | false =>
    have hemp2 : endsUpto p x i st1 (d + 1) = [] := by rw [endsUpto_succ, HH.out.2.2.2.1, ← HH.out.2.2.2.2]; rfl
    have HE2 := hide hemp2
    have HLen2 := hide (slen_any H2.out.1.sc)
    have hmF := hide HH.out.2.1
    clear hemp2 HH HLen
    by_cases hll2 : i + d < x.len
    · have g2 : decide ((i : Int) + (d : Int) < (x.len : Int)) = true := decide_eq_true (by omega)
      go_wp2_with fail
      refine HLen2.out.mono ?_
      rintro e w3 ⟨rfl, rfl⟩
      go_wp2_with fail
      refine (HST.out L fv _ hll2 H2.out.1 (by omega) hmF.out).mono ?_
      rintro e w3 ⟨rfl, L', fv', hwk', hF', hb', hnew, hsame⟩
      have hz3 := hb'.size
      have hF3 : ∀ z, z ∈ L' ↔ frontB p x i st1 (d + 1) z = true := hF'
      have H4 := hide (And.intro hwk' (And.intro hF3 (H2.out.2.trans (hb'.mono (by omega)))))
      clear hF3 hF' hb' hnew hsame hwk'
      go_wp2_with fail
      go_roundw
      case rel => exact ⟨d + 1, L', fv', by go_num, by omega, HE2.out, H4.out.1, fun _ => H4.out.2.1, H4.out.2.2, by omega⟩
      case measure => simp [intOf]; omega
    · have g2 : decide ((i : Int) + (d : Int) < (x.len : Int)) = false := decide_eq_false (by omega)
      go_wp2_with fail
      refine HLen2.out.mono ?_
      rintro e w3 ⟨rfl, rfl⟩
      go_wp2_with fail
      go_roundw
      case rel => exact ⟨d + 1, L, fv, by go_num, by omega, HE2.out, H2.out.1, fun h => by omega, H2.out.2, by omega⟩
      case measure => simp [intOf]; omega
end Go.Proofs.YtlomjepemnlliaaDoor
