/- bre: Parse. -/
import Derived.Test.YtfehmfifjidjjaaDoorBreF
import Derived.Deep.RegionHeld3
set_option linter.unusedSimpArgs false
set_option linter.unusedVariables false
namespace Go.Proofs.YtfehmfifjidjjaaDoor
open Go.RowKit

/-- A pattern in which groups may stand: by how deep they already do. -/
theorem brePatt_all {gr B0 : Nat} {p : ByteArray} {fl : Int} {a : Nat → Addr} {m : Int} (hp : p.size ≤ 1024) : ∀ (k n : Nat), n + k = 32 →
    PattB a m gr B0 p fl n (deepB p (!decide (bits .and .i64 fl 2 = 0)) (!decide (bits .and .i64 fl 4 = 0)) k (decide (0 < n)))
  | 0, n, hk => fun y i g h hi hgi hB hm => by
    rw [deepB]
    exact (brePattern_any (breGroup_any (by omega) hp (.inl ⟨rfl, by omega⟩)) (fun f e => by cases e) h hp hi hgi hB hm).mono fun e y' hh => hh.1
  | k + 1, n, hk => fun y i g h hi hgi hB hm => by
    have ih := brePatt_all hp k (n + 1) (by omega) (gr := gr) (B0 := B0) (fl := fl) (a := a) (m := m)
    rw [decide_eq_true (show 0 < n + 1 by omega)] at ih
    rw [deepB]
    exact (brePattern_any (breGroup_any (by omega) hp (.inr ⟨_, rfl, by omega, ih, fun i g hi => deepB_fine k true i g hi⟩)) (deepB_dfine k) h hp hi hgi hB hm).mono fun e y' hh => hh.1
/-- The whole pattern: its tree is the caller's own. -/
theorem brePatt_top {gr B0 : Nat} {p : ByteArray} {fl : Int} {a : Nat → Addr} {m : Int} (hp : p.size ≤ 1024) (y : World) (h : RdB y gr B0 p 0 fl 0 0) (hB : B0 ≤ y.heap.size) (hm : ∀ y', Below B0 y y' → B5 y' a m) :
    Calls Tryd.prog 18 #[.pointer (some ⟨gr, 0, none⟩)] y (EPBO a gr B0 p fl 0 y (deepB p (!decide (bits .and .i64 fl 2 = 0)) (!decide (bits .and .i64 fl 4 = 0)) 32 false 0 0)) := by
  have ih := brePatt_all hp 31 1 rfl (gr := gr) (B0 := B0) (fl := fl) (a := a) (m := m)
  exact brePattern_any (n := 0) (breGroup_any (by omega) hp (.inr ⟨_, rfl, by omega, ih, fun i g hi => deepB_fine 31 true i g hi⟩)) (deepB_dfine 31) h hp (Nat.zero_le _) (Nat.le_refl _) hB hm
theorem Tryd.assertB (v : Value) (w : World) : (Instr.typeAssert (.iface 43 v) 20 43 true).run Tryd.prog w = .ok (.tuple #[v, .bool true]) w := by
  simp [Instr.typeAssert, run_underlying Tryd.underlying43, go_sem, Result.andThen]
/-- What lies in the three result variables. -/
def Res3 (w : World) (g4 g5 g6 : Nat) (c4 : Array Value) (v5 v6 : Value) : Prop := Blk w g4 28 c4 ∧ Blk w g5 3 #[v5] ∧ Blk w g6 30 #[v6]
set_option maxRecDepth 100000 in
set_option maxHeartbeats 2000000 in
/-- The deferred closure behind a panic of the reader's. -/
theorem breCatch_pan (g4 g5 g6 gf : Nat) (older : List PanicEntry) (w : World) (c4 : Array Value) (v5 v6 : Value) (h : Res3 w g4 g5 g6 c4 v5 v6) (hc4 : c4.size = 10) (hd : g4 < g5 ∧ g5 < g6) :
    CallsD Tryd.prog 17 #[.pointer (some ⟨g4, 0, none⟩), .pointer (some ⟨g5, 0, none⟩), .pointer (some ⟨g6, 0, none⟩)] (.panicking ({ v := .iface 43 (.agg #[(.iface 50 (.pointer (some ⟨gf, 0, none⟩)))]), recovered := false } :: older)) w fun e u' w' =>
      e = .returned (.tuple #[]) ∧ u' = .panicking ({ v := .iface 43 (.agg #[(.iface 50 (.pointer (some ⟨gf, 0, none⟩)))]), recovered := true } :: older) ∧ Res3 w' g4 g5 g6 #[.int .i64 0, .int .u64 0, .int .u64 0, .int .u64 0, .int .u64 0, .slice none 0 0, .int .i64 0, .int .i64 0, .int .i64 0, .bool false] (.int .i64 0) (.iface 50 (.pointer (some ⟨gf, 0, none⟩))) ∧ Only (fun b => b = g4 ∨ b = g5 ∨ b = g6) w w' := by
  have hn0 := fun w => run_eql_iface_nil (P := Tryd.prog) (w := w) 20 (by kernel_rfl) 43 (.agg #[(.iface 50 (.pointer (some ⟨gf, 0, none⟩)))])
  have hta := fun w => Tryd.assertB (.agg #[(.iface 50 (.pointer (some ⟨gf, 0, none⟩)))]) w
  have H0 := hide h
  have HD := hide (And.intro hd hc4)
  clear h hd hc4
  refine callsD_of_wpS Tryd.func17 rfl fun c₀ cs hu => ?_
  apply wpS_seq
  apply wpS_region
  have hrep : (Array.replicate 12 undef : Array Value) = #[undef, undef, undef, undef, undef, undef, undef, undef, undef, undef, undef, undef] := rfl
  simp [wpOpsS, go_sem, recoverD, hu, Tryd.ntmps17, Exit.thenS, hrep]
  refine wpS_of_wp ?_
  go_upto_region 7 with fail
  have hal := (Below.refl w.heap.size w).alloc (Nat.le_refl _) (.cells #[(.iface 50 (.pointer (some ⟨gf, 0, none⟩)))] 43)
  have hbx := Blk.new w 43 #[(.iface 50 (.pointer (some ⟨gf, 0, none⟩)))]
  have H1 := hide (And.intro (H0.out.1.next hal) (And.intro (H0.out.2.1.next hal) (H0.out.2.2.next hal)))
  have HAL := hide hal
  have HLT := hide (And.intro H0.out.1.lt (And.intro H0.out.2.1.lt H0.out.2.2.lt))
  clear hal
  generalize (w.alloc (.cells #[(.iface 50 (.pointer (some ⟨gf, 0, none⟩)))] 43)) = W at *
  refine wp_region_mix (fun z => Blk z w.heap.size 43 #[(.iface 50 (.pointer (some ⟨gf, 0, none⟩)))]) [] (by kernel_rfl) (fun hcl => ?_)
  generalize hz0 : W.drew = z0
  have hbd : Below W.heap.size W z0 := by rw [← hz0]; exact (Below.refl _ _).drew
  have hS : Blk z0 w.heap.size 43 #[(.iface 50 (.pointer (some ⟨gf, 0, none⟩)))] := hbx.next hbd
  have H2 := hide (And.intro (H1.out.1.next hbd) (And.intro (H1.out.2.1.next hbd) (H1.out.2.2.next hbd)))
  have HB2 := hide (HAL.out.trans (hbd.mono HAL.out.size))
  clear hz0 hbd hbx
  refine wpAnyT_free (i := 0) hcl rfl (by kernel_rfl) (v := ?_) (fun _ _ _ h => h) hS (Or.inl ⟨rfl, fun w' _ => ?_⟩) (fun hcl => ?_)
  rotate_left
  · go_simp
    with_reducible rfl
  simp only [List.getElem_toArray, List.getElem_cons_zero, List.getElem_cons_succ, Act.put, List.setIfInBounds_toArray, List.set_cons_zero, List.set_cons_succ]
  refine wpAnyT_free (i := 1) hcl rfl (by kernel_rfl) (v := ?_) (fun _ _ _ h => h) hS (Or.inl ⟨rfl, fun w' _ => ?_⟩) (fun hcl => ?_)
  rotate_left
  · go_simp
    with_reducible rfl
  simp only [List.getElem_toArray, List.getElem_cons_zero, List.getElem_cons_succ, Act.put, List.setIfInBounds_toArray, List.set_cons_zero, List.set_cons_succ]
  refine wpAnyT_take (i := 2) hcl rfl (by kernel_rfl) (v := ?_) (fun _ _ _ h => h) hS (Or.inl ⟨rfl, fun w' hS => ?_⟩) (fun hcl => ?_)
  rotate_left
  · skip
    have cr : ∀ i : Nat, _ = _ := hS.cell
    go_simp
    with_reducible rfl
  simp only [List.getElem_toArray, List.getElem_cons_zero, List.getElem_cons_succ, Act.put, List.setIfInBounds_toArray, List.set_cons_zero, List.set_cons_succ]
  have HS0 := hide hS
  clear hS
  refine wpAnyT_step (i := 3) hcl rfl (by kernel_rfl) (fun hcl => ?_)
  simp only [List.getElem_toArray, List.getElem_cons_zero, List.getElem_cons_succ, Act.put, List.setIfInBounds_toArray, List.set_cons_zero, List.set_cons_succ]
  refine wpList_store_node rfl _ _ rfl g4 _ ⟨0, 0, 0, 0, 0, 0, 0, 0, false⟩ none 0 0 rfl rfl H2.out.1 HD.out.2 ?_
  intro w9 hrow9 hg9 hz9
  refine wpList_nil ?_
  have H3 := hide (And.intro (show Blk w9 g4 28 #[.int .i64 0, .int .u64 0, .int .u64 0, .int .u64 0, .int .u64 0, .slice none 0 0, .int .i64 0, .int .i64 0, .int .i64 0, .bool false] from hrow9) (And.intro (H2.out.2.1.grown hg9 (fun e => by have := Option.some.inj e; have := HD.out.1; omega)) (And.intro (H2.out.2.2.grown hg9 (fun e => by have := Option.some.inj e; have := HD.out.1; omega)) (And.intro (HS0.out.grown hg9 (fun e => by have := Option.some.inj e; have := HLT.out.1; omega)) (Only.of_grown (bs := fun b => b = g4) hg9 (fun q hq => (Option.some.inj hq).symm))))))
  refine ⟨H3.out.2.2.2.1, ?_⟩
  clear hrow9 hg9 hz9 HS0
  refine wpAnyT_step (i := 4) hcl rfl (by kernel_rfl) (fun hcl => ?_)
  simp only [List.getElem_toArray, List.getElem_cons_zero, List.getElem_cons_succ, Act.put, List.setIfInBounds_toArray, List.set_cons_zero, List.set_cons_succ]
  have c5 := H3.out.2.1.cell
  have f5 := H3.out.2.1.frozen
  go_wp2_with fail
  have H4 := hide (And.intro (H3.out.1.far (p := ⟨g5, 0, none⟩) (show g4 ≠ g5 by have := HD.out.1; omega) (.int .i64 0)) (And.intro (H3.out.2.1.set_ 0 (.int .i64 0)) (And.intro (H3.out.2.2.1.far (p := ⟨g5, 0, none⟩) (show g6 ≠ g5 by have := HD.out.1; omega) (.int .i64 0)) (And.intro (H3.out.2.2.2.1.far (p := ⟨g5, 0, none⟩) (show w.heap.size ≠ g5 by have := HLT.out; omega) (.int .i64 0)) ((Only.refl (fun b => b = g5) w9).setCell (p := ⟨g5, 0, none⟩) (.inl rfl) (.int .i64 0))))))
  refine ⟨H4.out.2.2.2.1, ?_⟩
  clear c5 f5
  generalize (w9.setCell ⟨g5, 0, none⟩ (.int .i64 0)) = w10 at *
  refine wpAnyT_step (i := 5) hcl rfl (by kernel_rfl) (fun hcl => ?_)
  simp only [List.getElem_toArray, List.getElem_cons_zero, List.getElem_cons_succ, Act.put, List.setIfInBounds_toArray, List.set_cons_zero, List.set_cons_succ]
  have c6 := H4.out.2.2.1.cell
  have f6 := H4.out.2.2.1.frozen
  go_wp2_with fail
  have H5 := hide (And.intro (H4.out.1.far (p := ⟨g6, 0, none⟩) (show g4 ≠ g6 by have := HD.out.1; omega) (.iface 50 (.pointer (some ⟨gf, 0, none⟩)))) (And.intro (H4.out.2.1.far (p := ⟨g6, 0, none⟩) (show g5 ≠ g6 by have := HD.out.1; omega) (.iface 50 (.pointer (some ⟨gf, 0, none⟩)))) (And.intro (H4.out.2.2.1.set_ 0 (.iface 50 (.pointer (some ⟨gf, 0, none⟩)))) (And.intro (H4.out.2.2.2.1.far (p := ⟨g6, 0, none⟩) (show w.heap.size ≠ g6 by have := HLT.out; omega) (.iface 50 (.pointer (some ⟨gf, 0, none⟩)))) ((Only.refl (fun b => b = g6) w10).setCell (p := ⟨g6, 0, none⟩) (.inl rfl) (.iface 50 (.pointer (some ⟨gf, 0, none⟩))))))))
  refine ⟨H5.out.2.2.2.1, ?_⟩
  clear c6 f6
  generalize (w10.setCell ⟨g6, 0, none⟩ (.iface 50 (.pointer (some ⟨gf, 0, none⟩)))) = w11 at *
  refine wpAnyT_done (by kernel_rfl) ?_ _
  have hon : Only (fun b => b = g4 ∨ b = g5 ∨ b = g6) w w11 := ((((Only.of_below HB2.out).trans (H3.out.2.2.2.2.mono fun b _ h => .inl h)).trans (H4.out.2.2.2.2.mono fun b _ h => .inr (.inl h)))).trans (H5.out.2.2.2.2.mono fun b _ h => .inr (.inr h))
  have HR := hide (And.intro (show Res3 w11 g4 g5 g6 #[.int .i64 0, .int .u64 0, .int .u64 0, .int .u64 0, .int .u64 0, .slice none 0 0, .int .i64 0, .int .i64 0, .int .i64 0, .bool false] (.int .i64 0) (.iface 50 (.pointer (some ⟨gf, 0, none⟩))) from ⟨H5.out.1, H5.out.2.1, H5.out.2.2.1⟩) hon)
  clear hon H5 H4 H3 H2 H1 HLT HB2
  go_wp2_with fail
  cases c₀
  simp_all [bodyPostS, results, Tryd.results17]
  exact HR.out
set_option maxRecDepth 100000 in
set_option maxHeartbeats 2000000 in
/-- The deferred closure behind a return: nothing to do. -/
theorem breCatch_idle (g4 g5 g6 : Nat) (w : World) :
    CallsD Tryd.prog 17 #[.pointer (some ⟨g4, 0, none⟩), .pointer (some ⟨g5, 0, none⟩), .pointer (some ⟨g6, 0, none⟩)] .returning w fun e u' w' => e = .returned (.tuple #[]) ∧ u' = .returning ∧ w' = w := by
  have hn0 := fun w => run_eql_nil_nil_at (P := Tryd.prog) (w := w) 20 (by kernel_rfl)
  refine callsD_of_wpS Tryd.func17 rfl fun c₀ cs hu => ?_
  apply wpS_seq
  apply wpS_region
  have hrep : (Array.replicate 12 undef : Array Value) = #[undef, undef, undef, undef, undef, undef, undef, undef, undef, undef, undef, undef] := rfl
  simp [wpOpsS, go_sem, recoverD, hu, Tryd.ntmps17, Exit.thenS, hrep]
  refine wpS_of_wp ?_
  go_wp2_with fail
  cases c₀
  simp_all [bodyPostS, results, Tryd.results17]
set_option maxHeartbeats 1000000 in
/-- The three result variables are read. -/
theorem res3_run {tmps : Array Value} {w : World} {g4 g5 g6 : Nat} {h : Hd} {v v6 : Value} {z : Int} (hr : Res3 w g4 g5 g6 (h.cells v).toArray (.int .i64 z) v6) (t4 : tmps[4]?.getD undef = .pointer (some ⟨g4, 0, none⟩)) (t5 : tmps[5]?.getD undef = .pointer (some ⟨g5, 0, none⟩)) (t6 : tmps[6]?.getD undef = .pointer (some ⟨g6, 0, none⟩)) :
    (results Tryd.f6 tmps).run Tryd.prog w = .ok (.tuple #[.agg (h.cells v).toArray, .int .i64 z, v6]) w := by
  have c4 := hr.1.cell
  have c5 := hr.2.1.cell
  have c6 := hr.2.2.cell
  simp only [Hd.cells] at c4 ⊢
  simp [results, Tryd.results6, go_sem, t4, t5, t6, c4, c5, c6]
theorem ownB_set {w : World} {lo : Nat} {x : Option Nat} {t : T} {B : Option Addr} (h : OwnB w lo x t B) {p : Addr} (hp : p.block < lo) (v : Value) : OwnB (w.setCell p v) lo x t B := by
  obtain ⟨bs, h1, h2, h3⟩ := h
  exact ⟨bs, h1.same fun b hm => ((Only.refl (fun b => b = p.block) w).setCell (p := p) (.inl rfl) v).block b (h3 b hm).2 (fun e => by have := (h3 b hm).1; omega), h2, fun b hm => ⟨(h3 b hm).1, by have := (h3 b hm).2; simpa [World.size_setCell] using this⟩⟩
set_option maxRecDepth 100000 in
set_option maxHeartbeats 4000000 in
theorem breParse_any (p : ByteArray) (fl : Int) (a : Nat → Addr) (m : Int) (w : World) (hB5 : B5 w a m) :
    Calls Tryd.prog 6 #[.string p, .int .i64 fl] w (ParseIs (parseB p (!decide (bits .and .i64 fl 2 = 0)) (!decide (bits .and .i64 fl 4 = 0))) a w) := by
  have hmf : ∀ (fn : Fn) (first cap : Array Value) (w : World), (Instr.makeFunc fn first cap).run Tryd.prog w = .ok (.func fn first cap) w := fun _ _ _ _ => rfl
  have hb1 := (Below.refl w.heap.size w).alloc (Nat.le_refl _) (.cells #[.int .i64 0, .int .u64 0, .int .u64 0, .int .u64 0, .int .u64 0, .slice none 0 0, .int .i64 0, .int .i64 0, .int .i64 0, .bool false] 28)
  have hb2 := hb1.alloc hb1.size (.cells #[.int .i64 0] 3)
  have hb3 := hb2.alloc hb2.size (.cells #[.nilIface] 30)
  have hz1 : (w.alloc (.cells #[.int .i64 0, .int .u64 0, .int .u64 0, .int .u64 0, .int .u64 0, .slice none 0 0, .int .i64 0, .int .i64 0, .int .i64 0, .bool false] 28)).heap.size = w.heap.size + 1 := World.size_alloc _ _
  have hz2 : ((w.alloc (.cells #[.int .i64 0, .int .u64 0, .int .u64 0, .int .u64 0, .int .u64 0, .slice none 0 0, .int .i64 0, .int .i64 0, .int .i64 0, .bool false] 28)).alloc (.cells #[.int .i64 0] 3)).heap.size = w.heap.size + 2 := by rw [World.size_alloc, hz1]
  have hz3 : (((w.alloc (.cells #[.int .i64 0, .int .u64 0, .int .u64 0, .int .u64 0, .int .u64 0, .slice none 0 0, .int .i64 0, .int .i64 0, .int .i64 0, .bool false] 28)).alloc (.cells #[.int .i64 0] 3)).alloc (.cells #[.nilIface] 30)).heap.size = w.heap.size + 3 := by rw [World.size_alloc, hz2]
  have h4 := ((Blk.new w 28 #[.int .i64 0, .int .u64 0, .int .u64 0, .int .u64 0, .int .u64 0, .slice none 0 0, .int .i64 0, .int .i64 0, .int .i64 0, .bool false]).alloc (.cells #[.int .i64 0] 3)).alloc (.cells #[.nilIface] 30)
  have h5 := (Blk.new (w.alloc (.cells #[.int .i64 0, .int .u64 0, .int .u64 0, .int .u64 0, .int .u64 0, .slice none 0 0, .int .i64 0, .int .i64 0, .int .i64 0, .bool false] 28)) 3 #[.int .i64 0]).alloc (.cells #[.nilIface] 30)
  have h6 := Blk.new ((w.alloc (.cells #[.int .i64 0, .int .u64 0, .int .u64 0, .int .u64 0, .int .u64 0, .slice none 0 0, .int .i64 0, .int .i64 0, .int .i64 0, .bool false] 28)).alloc (.cells #[.int .i64 0] 3)) 30 #[.nilIface]
  rw [hz1] at h5
  rw [hz2] at h6
  have H0 := hide (And.intro hb3 (show Res3 (((w.alloc (.cells #[.int .i64 0, .int .u64 0, .int .u64 0, .int .u64 0, .int .u64 0, .slice none 0 0, .int .i64 0, .int .i64 0, .int .i64 0, .bool false] 28)).alloc (.cells #[.int .i64 0] 3)).alloc (.cells #[.nilIface] 30)) w.heap.size (w.heap.size + 1) (w.heap.size + 2) #[.int .i64 0, .int .u64 0, .int .u64 0, .int .u64 0, .int .u64 0, .slice none 0 0, .int .i64 0, .int .i64 0, .int .i64 0, .bool false] (.int .i64 0) .nilIface from ⟨h4, h5, h6⟩))
  have HZ := hide hz3
  have HM := hide (fun (y' : World) (hb : Below w.heap.size w y') => hB5.below hb)
  clear hb1 hb2 hb3 hz1 hz2 hz3 h4 h5 h6 hB5
  obtain ⟨res, hres⟩ : ∃ res, res = parseB p (!decide (bits .and .i64 fl 2 = 0)) (!decide (bits .and .i64 fl 4 = 0)) := ⟨_, rfl⟩
  rw [← hres]
  have HRS := hide hres
  clear hres
  go_enter_defers Tryd.func6, Tryd.ntmps6
  go_upto_region 1 with fail
  have H0b := hide (show Below w.heap.size w (((w.alloc (.cells #[.int .i64 0, .int .u64 0, .int .u64 0, .int .u64 0, .int .u64 0, .slice none 0 0, .int .i64 0, .int .i64 0, .int .i64 0, .bool false] 28)).alloc (.cells #[.int .i64 0] 3)).alloc (.cells #[.nilIface] 30)) ∧ Res3 (((w.alloc (.cells #[.int .i64 0, .int .u64 0, .int .u64 0, .int .u64 0, .int .u64 0, .slice none 0 0, .int .i64 0, .int .i64 0, .int .i64 0, .bool false] 28)).alloc (.cells #[.int .i64 0] 3)).alloc (.cells #[.nilIface] 30)) w.heap.size (w.heap.size + 1) (w.heap.size + 1 + 1) #[.int .i64 0, .int .u64 0, .int .u64 0, .int .u64 0, .int .u64 0, .slice none 0 0, .int .i64 0, .int .i64 0, .int .i64 0, .bool false] (.int .i64 0) .nilIface from H0.out)
  clear H0
  generalize (((w.alloc (.cells #[.int .i64 0, .int .u64 0, .int .u64 0, .int .u64 0, .int .u64 0, .slice none 0 0, .int .i64 0, .int .i64 0, .int .i64 0, .bool false] 28)).alloc (.cells #[.int .i64 0] 3)).alloc (.cells #[.nilIface] 30)) = W at *
  obtain ⟨g4, hg4⟩ : ∃ g4, g4 = w.heap.size := ⟨_, rfl⟩
  have HG4 := hide hg4
  rw [← hg4] at H0b HZ ⊢
  clear hg4
  obtain ⟨g5, hg5⟩ : ∃ g5, g5 = g4 + 1 := ⟨_, rfl⟩
  rw [← hg5] at H0b ⊢
  obtain ⟨g6, hg6⟩ : ∃ g6, g6 = g5 + 1 := ⟨_, rfl⟩
  rw [← hg6] at H0b ⊢
  have hne : g4 < g5 ∧ g5 < g6 ∧ g6 < W.heap.size := ⟨by omega, by omega, by have := HZ.out; omega⟩
  clear hg5 hg6
  by_cases hp : 1024 < p.size
  · have HE := hide (show res = .bad 11 1024 from by rw [HRS.out]; unfold parseB; rw [if_pos hp])
    have g1 : decide ((1024 : Int) < (p.size : Int)) = true := decide_eq_true (by omega)
    have ce := (HM.out _ (HG4.out ▸ H0b.out.1)).errs.var 0 (by decide)
    have HF := hide (fault_any 1024 (a (sentVar 11)) W)
    go_wp2_with fail
    refine HF.out.mono ?_
    rintro e w1 ⟨gf, rfl, hgf, hfb, hb⟩
    have H1 := hide (And.intro (H0b.out.1.trans (hb.mono (by omega : g4 ≤ W.heap.size))) (And.intro (H0b.out.2.1.next hb) (And.intro (H0b.out.2.2.1.next hb) (And.intro (H0b.out.2.2.2.next hb) hfb))))
    have HN := hide hne
    clear ce hb hgf hfb HF
    unfold faultV
    go_wp2_with (refine wpList_store_node rfl _ _ rfl g4 _ ⟨0, 0, 0, 0, 0, 0, 0, 0, false⟩ none 0 0 rfl rfl H1.out.2.1 rfl ?_; intro w9 hrow9 hg9 hz9; have hb5 := H1.out.2.2.1.grown hg9 (fun e => by have := Option.some.inj e; have := HN.out; omega); have hb6 := H1.out.2.2.2.1.grown hg9 (fun e => by have := Option.some.inj e; have := HN.out; omega); have c5 := hb5.cell; have f5 := hb5.frozen; have c6 := hb6.cell; have f6 := hb6.frozen)
    refine ⟨_, res3_run (h := ⟨0, 0, 0, 0, 0, 0, 0, 0, false⟩) (v := .slice none 0 0) (g4 := g4) (g5 := g5) (g6 := g6) (z := 0) (v6 := (.iface 50 (.pointer (some ⟨gf, 0, none⟩)))) ⟨(hrow9.far (p := ⟨g5, 0, none⟩) (show g4 ≠ g5 by have := HN.out; omega) _).far (p := ⟨g6, 0, none⟩) (show g4 ≠ g6 by have := HN.out; omega) _, (hb5.set_ 0 _).far (p := ⟨g6, 0, none⟩) (show g5 ≠ g6 by have := HN.out; omega) _, (hb6.far (p := ⟨g5, 0, none⟩) (show g6 ≠ g5 by have := HN.out; omega) _).set_ 0 _⟩ rfl rfl rfl, ?_⟩
    have hbl : Below g4 w w9 := below_grew H1.out.1 hg9 (Nat.le_of_eq HG4.out) (fun q hq => by rw [← Option.some.inj hq]; exact Nat.le_refl _)
    have hfi := ((Blk.grown H1.out.2.2.2.2 hg9 (fun e => (blk_ne6 H1.out.2.2.2.2 H1.out.2.1 (by decide)) (Option.some.inj e))).far (p := ⟨g5, 0, none⟩) (blk_ne6 (Blk.grown H1.out.2.2.2.2 hg9 (fun e => (blk_ne6 H1.out.2.2.2.2 H1.out.2.1 (by decide)) (Option.some.inj e))) hb5 (by decide)) (.int .i64 0)).far (p := ⟨g6, 0, none⟩) (blk_ne6 (Blk.grown H1.out.2.2.2.2 hg9 (fun e => (blk_ne6 H1.out.2.2.2.2 H1.out.2.1 (by decide)) (Option.some.inj e))) hb6 (by decide)) (.iface 50 (.pointer (some ⟨gf, 0, none⟩)))
    refine parseIs_bad HE.out hfi ?_
    rw [← HG4.out]
    exact (hbl.setCell (p := ⟨g5, 0, none⟩) (show g4 ≤ g5 by have := HN.out; omega) _).setCell (p := ⟨g6, 0, none⟩) (show g4 ≤ g6 by have := HN.out; omega) _
  · have hp2 : p.size ≤ 1024 := by omega
    have g1 : decide ((1024 : Int) < (p.size : Int)) = false := decide_eq_false (by omega)
    have HRS2 := hide (show res = wholeP p (deepB p (!decide (bits .and .i64 fl 2 = 0)) (!decide (bits .and .i64 fl 4 = 0)) 32 false 0 0) from by rw [HRS.out]; unfold parseB; rw [if_neg hp])
    clear HRS hp
    have hal := (Below.refl W.heap.size W).alloc (Nat.le_refl _) (.cells #[.string p, .int .i64 0, .int .i64 fl, .int .i64 0, .int .i64 0] 46)
    have hE : RdB (W.alloc (.cells #[.string p, .int .i64 0, .int .i64 fl, .int .i64 0, .int .i64 0] 46)) W.heap.size g4 p 0 fl 0 0 := ⟨Blk.new W 46 _, ⟨[], rfl, OwnInts.nil _ _⟩, by omega, by decide, by decide⟩
    have hw1 : Below g4 w (W.alloc (.cells #[.string p, .int .i64 0, .int .i64 fl, .int .i64 0, .int .i64 0] 46)) := H0b.out.1.trans (hal.mono (by omega))
    have HPt := hide (brePatt_top hp2 _ hE (by have := hal.size; omega) (fun y' hy => HM.out y' (HG4.out ▸ (hw1.trans hy))))
    have H1 := hide (And.intro hE (And.intro hw1 (And.intro (H0b.out.2.1.next hal) (And.intro (H0b.out.2.2.1.next hal) (H0b.out.2.2.2.next hal)))))
    have HN := hide hne
    clear hal hE hw1 H0b
    go_upto_region 5 with fail
    generalize (W.alloc (.cells #[.string p, .int .i64 0, .int .i64 fl, .int .i64 0, .int .i64 0] 46)) = W1 at *
    generalize W.heap.size = gr at *
    have hFin := deepB_fine (p := p) (ic := !decide (bits .and .i64 fl 2 = 0)) (nl := !decide (bits .and .i64 fl 4 = 0)) 32 false 0 0 (Nat.zero_le _)
    obtain ⟨r, hr⟩ : ∃ r, r = deepB p (!decide (bits .and .i64 fl 2 = 0)) (!decide (bits .and .i64 fl 4 = 0)) 32 false 0 0 := ⟨_, rfl⟩
    rw [← hr] at HPt HRS2 hFin
    clear hr g1
    go_wp2_with fail
    refine HPt.out.mono ?_
    rintro e z ⟨hz, hown⟩
    clear HPt
    cases r with
    | bad c pl =>
      have HE := hide (show res = .bad c pl from HRS2.out)
      obtain ⟨gf, rfl, hfi, hff⟩ := hz
      have H2 := hide (And.intro (H1.out.2.1.trans hff.below) (And.intro (show Res3 z g4 g5 g6 #[.int .i64 0, .int .u64 0, .int .u64 0, .int .u64 0, .int .u64 0, .slice none 0 0, .int .i64 0, .int .i64 0, .int .i64 0, .bool false] (.int .i64 0) .nilIface from ⟨hff.blk_ H1.out.2.2.1 (by have := HN.out; omega) (by simp), hff.blk_ H1.out.2.2.2.1 (by have := HN.out; omega) (by simp), hff.blk_ H1.out.2.2.2.2 (by have := HN.out; omega) (by simp)⟩) hfi))
      clear hfi hff hown
      unfold faultV
      go_wp2_with fail
      refine leaves_cons (f := 17) (args := #[.pointer (some ⟨g4, 0, none⟩), .pointer (some ⟨g5, 0, none⟩), .pointer (some ⟨g6, 0, none⟩)]) (by simp) (by simp [go_sem]) ?_
      refine (breCatch_pan g4 g5 g6 gf [] z _ _ _ H2.out.2.1 rfl (by have := HN.out; omega)).mono ?_
      rintro e u' w' ⟨rfl, rfl, hres3, hon⟩
      have HFi := hide (show FaultIs a w' gf _ _ from (hon.block gf H2.out.2.2.lt (fun h => by
        rcases h with h | h | h
        · exact blk_ne6 H2.out.2.2 H2.out.2.1.1 (by decide) h
        · exact blk_ne6 H2.out.2.2 H2.out.2.1.2.1 (by decide) h
        · exact blk_ne6 H2.out.2.2 H2.out.2.1.2.2 (by decide) h)).trans H2.out.2.2)
      have hbl : Below g4 w w' := H2.out.1.trans (hon.below (B := g4) (by have := H2.out.2.1.1.lt; omega) (fun b hb => by have := HN.out; rcases hb with h | h | h <;> omega))
      refine ⟨_, res3_run (h := ⟨0, 0, 0, 0, 0, 0, 0, 0, false⟩) (v := .slice none 0 0) hres3 rfl rfl rfl, ?_⟩
      refine parseIs_bad HE.out HFi.out ?_
      rw [← HG4.out]
      exact hbl
    | ok t j q =>
      obtain ⟨B, c, rfl, hown2⟩ := hown t j q rfl
      obtain ⟨B', c', heq, hin, hE, hF⟩ := hz
      have H2 := hide (And.intro hE (And.intro (H1.out.2.1.trans hF.below) (And.intro (hF.blk_ H1.out.2.2.1 (by have := HN.out; omega) (by simp)) (And.intro (hF.blk_ H1.out.2.2.2.1 (by have := HN.out; omega) (by simp)) (hF.blk_ H1.out.2.2.2.2 (by have := HN.out; omega) (by simp))))))
      have HOw := hide hown2
      simp only [PR.Fine] at hFin
      have hnd : t.nodes ≤ 100000 := by omega
      have HZ1 := hide (show g6 < W1.heap.size ∧ W1.heap.size ≤ z.heap.size from ⟨H1.out.2.2.2.2.lt, hF.below.size⟩)
      clear hown2 heq hin hE hF hFin
      go_upto_region 6 with (refine wpList_store_node rfl _ _ rfl g4 _ _ _ _ _ rfl rfl H2.out.2.2.1 rfl ?_; intro w3 hrow_w3 hg_w3 hz_w3)
      have H3 := hide (And.intro (H2.out.1.grown hg_w3 (fun e => by have := Option.some.inj e; have := HN.out; omega) (.inl rfl)) (And.intro (below_grew H2.out.2.1 hg_w3 (Nat.le_of_eq HG4.out) (fun q hq => by rw [← Option.some.inj hq]; exact Nat.le_refl _)) (And.intro hrow_w3 (And.intro (H2.out.2.2.2.1.grown hg_w3 (fun e => by have := Option.some.inj e; have := HN.out; omega)) (H2.out.2.2.2.2.grown hg_w3 (fun e => by have := Option.some.inj e; have := HN.out; omega))))))
      have HO3 := hide (show OwnB w3 W1.heap.size none t B from HOw.out.grown hg_w3 (by have := HN.out; have := HZ1.out; omega))
      have HZ3 := hide (show W1.heap.size ≤ w3.heap.size from by have := HZ1.out; rw [hz_w3]; omega)
      clear hrow_w3 hg_w3 hz_w3 H2 HOw H1
      have HSz := hide (Size_any t B c w3 (by omega) (by
        obtain ⟨bs, h1, h2, h3⟩ := HO3.out
        exact h1.in_ fun b hb => (h3 b hb).2))
      go_wp2_with (refine wpList_load_node rfl _ rfl g4 _ _ rfl H3.out.2.2.1 ?_)
      refine HSz.out.mono ?_
      rintro e w4 ⟨rfl, hb4⟩
      have H4 := hide (And.intro (H3.out.1.next hb4) (And.intro (H3.out.2.1.trans (hb4.mono (by have := HN.out; have := HZ1.out; have := HZ3.out; omega))) (And.intro (H3.out.2.2.1.next hb4) (And.intro (H3.out.2.2.2.1.next hb4) (H3.out.2.2.2.2.next hb4)))))
      have HO4 := hide (HO3.out.next hb4)
      have HZ4 := hide (Nat.le_trans HZ3.out hb4.size)
      clear hb4 HSz H3 HO3
      generalize hfz : t.fullSize = fz at *
      have HFZ := hide hfz
      clear hfz
      by_cases hbig : 2000 < fz
      · have HE := hide (show res = .bad 9 (p.size : Int) from by rw [HRS2.out]; unfold wholeP; simp only; rw [if_pos (by rw [HFZ.out]; exact hbig)])
        have g1 : decide (2000 < fz) = true := decide_eq_true hbig
        have ceq := (HM.out _ (HG4.out ▸ H4.out.2.1)).errs.var 1 (by decide)
        go_wp2_with fail
        refine (breFail_any (gr := gr) (B0 := g4) (by have := HN.out; have := HZ1.out; have := HZ4.out; omega) a 9 (p.size : Int)).mono ?_
        rintro e wf ⟨gf, rfl, hfi, hff⟩
        have H2 := hide (And.intro (H4.out.2.1.trans hff.below) (And.intro (show Res3 wf g4 g5 g6 (t.hd.cells (.slice B t.subs.length c)).toArray (.int .i64 0) .nilIface from ⟨hff.blk_ H4.out.2.2.1 (by have := HN.out; omega) (by simp), hff.blk_ H4.out.2.2.2.1 (by have := HN.out; omega) (by simp), hff.blk_ H4.out.2.2.2.2 (by have := HN.out; omega) (by simp)⟩) hfi))
        clear hfi hff ceq
        unfold faultV
        go_wp2_with fail
        refine leaves_cons (f := 17) (args := #[.pointer (some ⟨g4, 0, none⟩), .pointer (some ⟨g5, 0, none⟩), .pointer (some ⟨g6, 0, none⟩)]) (by simp) (by simp [go_sem]) ?_
        refine (breCatch_pan g4 g5 g6 gf [] wf _ _ _ H2.out.2.1 rfl (by have := HN.out; omega)).mono ?_
        rintro e u' w' ⟨rfl, rfl, hres3, hon⟩
        have HFi := hide (show FaultIs a w' gf _ _ from (hon.block gf H2.out.2.2.lt (fun h => by
          rcases h with h | h | h
          · exact blk_ne6 H2.out.2.2 H2.out.2.1.1 (by decide) h
          · exact blk_ne6 H2.out.2.2 H2.out.2.1.2.1 (by decide) h
          · exact blk_ne6 H2.out.2.2 H2.out.2.1.2.2 (by decide) h)).trans H2.out.2.2)
        have hbl : Below g4 w w' := H2.out.1.trans (hon.below (B := g4) (by have := H2.out.2.1.1.lt; omega) (fun b hb => by have := HN.out; rcases hb with h | h | h <;> omega))
        refine ⟨_, res3_run (h := ⟨0, 0, 0, 0, 0, 0, 0, 0, false⟩) (v := .slice none 0 0) hres3 rfl rfl rfl, ?_⟩
        refine parseIs_bad HE.out HFi.out ?_
        rw [← HG4.out]
        exact hbl
      · have HE := hide (show res = .ok t j q from by rw [HRS2.out]; unfold wholeP; simp only; rw [if_neg (by rw [HFZ.out]; exact hbig)])
        have g1 : decide (2000 < fz) = false := decide_eq_false hbig
        go_upto_region 8 with fail
        have HLT := hide (And.intro H4.out.2.2.1.lt (And.intro H4.out.2.2.2.1.lt H4.out.2.2.2.2.lt))
        have HGR := hide (And.intro (show gr ≠ g4 from blk_ne6 H4.out.1.box H4.out.2.2.1 (by decide)) (And.intro (show gr ≠ g5 from blk_ne6 H4.out.1.box H4.out.2.2.2.1 (by decide)) (show gr ≠ g6 from blk_ne6 H4.out.1.box H4.out.2.2.2.2 (by decide))))
        refine wp_region_noPanic ?_
        refine wp_region_mix (fun z => Blk z g4 28 (t.hd.cells (.slice B t.subs.length c)).toArray ∧ Blk z gr 46 #[.string p, .int .i64 (j : Int), .int .i64 fl, .int .i64 (q : Int), .int .i64 ((0 : Nat) : Int)]) [] (by kernel_rfl) (fun hcl => ?_)
        generalize hz0 : w4.drew = z0
        have hbd : Below w4.heap.size w4 z0 := by rw [← hz0]; exact (Below.refl _ _).drew
        have hS : Blk z0 g4 28 (t.hd.cells (.slice B t.subs.length c)).toArray ∧ Blk z0 gr 46 #[.string p, .int .i64 (j : Int), .int .i64 fl, .int .i64 (q : Int), .int .i64 ((0 : Nat) : Int)] := ⟨H4.out.2.2.1.next hbd, H4.out.1.box.next hbd⟩
        have H5 := hide (And.intro (H4.out.2.1.trans (hbd.mono (by have := H4.out.2.1.size; have := HG4.out; omega))) (And.intro (H4.out.2.2.2.1.next hbd) (H4.out.2.2.2.2.next hbd)))
        have HO5 := hide (HO4.out.next hbd)
        have HZ5 := hide (Nat.le_trans HZ4.out hbd.size)
        clear hz0 hbd
        refine wpAnyT_take (i := 0) hcl rfl (by kernel_rfl) (v := .agg (t.hd.cells (.slice B t.subs.length c)).toArray) (fun _ _ _ h => h) hS (Or.inl ⟨rfl, fun w' hS => run_load_cells _ _ rfl ⟨g4, 0, none⟩ rfl (t.hd.cells (.slice B t.subs.length c)) _ Tryd.underlying28 rfl (by rw [Tryd.sizeNode]; rfl) (fun j u hu => by rw [Addr.add_lit, Nat.zero_add, hS.1.cell]; simpa using hu)⟩) (fun hcl => ?_)
        simp only [List.getElem_toArray, List.getElem_cons_zero, List.getElem_cons_succ, Act.put, List.setIfInBounds_toArray, List.set_cons_zero, List.set_cons_succ]
        refine wpAnyT_free (i := 1) hcl rfl (by kernel_rfl) (v := ?_) (fun _ _ _ h => h) hS (Or.inl ⟨rfl, fun w' _ => ?_⟩) (fun hcl => ?_)
        rotate_left
        · go_simp
          with_reducible rfl
        simp only [List.getElem_toArray, List.getElem_cons_zero, List.getElem_cons_succ, Act.put, List.setIfInBounds_toArray, List.set_cons_zero, List.set_cons_succ]
        refine wpAnyT_free (i := 2) hcl rfl (by kernel_rfl) (v := ?_) (fun _ _ _ h => h) hS (Or.inl ⟨rfl, fun w' _ => ?_⟩) (fun hcl => ?_)
        rotate_left
        · go_simp
          with_reducible rfl
        simp only [List.getElem_toArray, List.getElem_cons_zero, List.getElem_cons_succ, Act.put, List.setIfInBounds_toArray, List.set_cons_zero, List.set_cons_succ]
        refine wpAnyT_free (i := 3) hcl rfl (by kernel_rfl) (v := ?_) (fun _ _ _ h => h) hS (Or.inl ⟨rfl, fun w' _ => ?_⟩) (fun hcl => ?_)
        rotate_left
        · go_simp
          with_reducible rfl
        simp only [List.getElem_toArray, List.getElem_cons_zero, List.getElem_cons_succ, Act.put, List.setIfInBounds_toArray, List.set_cons_zero, List.set_cons_succ]
        refine wpAnyT_take (i := 4) hcl rfl (by kernel_rfl) (v := ?_) (fun _ _ _ h => h) hS (Or.inl ⟨rfl, fun w' hS => ?_⟩) (fun hcl => ?_)
        rotate_left
        · skip
          have cr : ∀ i : Nat, _ = _ := hS.2.cell
          go_simp
          with_reducible rfl
        simp only [List.getElem_toArray, List.getElem_cons_zero, List.getElem_cons_succ, Act.put, List.setIfInBounds_toArray, List.set_cons_zero, List.set_cons_succ]
        have HS0 := hide hS
        clear hS
        refine wpAnyT_step (i := 5) hcl rfl (by kernel_rfl) (fun hcl => ?_)
        simp only [List.getElem_toArray, List.getElem_cons_zero, List.getElem_cons_succ, Act.put, List.setIfInBounds_toArray, List.set_cons_zero, List.set_cons_succ]
        refine wpList_store_node rfl _ _ rfl g4 _ t.hd B t.subs.length c rfl rfl HS0.out.1 rfl ?_
        intro w9 hrow9 hg9 hz9
        refine wpList_nil ?_
        have H6 := hide (And.intro (show Blk w9 g4 28 (t.hd.cells (.slice B t.subs.length c)).toArray from hrow9) (And.intro (HS0.out.2.grown hg9 (fun e => HGR.out.1 (Option.some.inj e))) (And.intro (H5.out.2.1.grown hg9 (fun e => by have := Option.some.inj e; have := HN.out; omega)) (And.intro (H5.out.2.2.grown hg9 (fun e => by have := Option.some.inj e; have := HN.out; omega)) (below_grew H5.out.1 hg9 (Nat.le_of_eq HG4.out) (fun q hq => by rw [← Option.some.inj hq]; exact Nat.le_refl _))))))
        have HO6 := hide (show OwnB w9 W1.heap.size none t B from HO5.out.grown hg9 (by have := HN.out; have := HZ1.out; omega))
        refine ⟨⟨H6.out.1, H6.out.2.1⟩, ?_⟩
        clear hrow9 hg9 hz9 HS0 H5 HO5
        refine wpAnyT_step (i := 6) hcl rfl (by kernel_rfl) (fun hcl => ?_)
        simp only [List.getElem_toArray, List.getElem_cons_zero, List.getElem_cons_succ, Act.put, List.setIfInBounds_toArray, List.set_cons_zero, List.set_cons_succ]
        have c5 := H6.out.2.2.1.cell
        have f5 := H6.out.2.2.1.frozen
        go_wp2_with fail
        have H7 := hide (And.intro (H6.out.1.far (p := ⟨g5, 0, none⟩) (show g4 ≠ g5 by have := HN.out; omega) (.int .i64 (q : Int))) (And.intro (H6.out.2.1.far (p := ⟨g5, 0, none⟩) HGR.out.2.1 (.int .i64 (q : Int))) (And.intro (H6.out.2.2.1.set_ 0 (.int .i64 (q : Int))) (And.intro (H6.out.2.2.2.1.far (p := ⟨g5, 0, none⟩) (show g6 ≠ g5 by have := HN.out; omega) (.int .i64 (q : Int))) (H6.out.2.2.2.2.setCell (p := ⟨g5, 0, none⟩) (show g4 ≤ g5 by have := HN.out; omega) (.int .i64 (q : Int)))))))
        have HO7 := hide (ownB_set HO6.out (p := ⟨g5, 0, none⟩) (show g5 < W1.heap.size by have := HN.out; have := HZ1.out; omega) (.int .i64 (q : Int)))
        refine ⟨⟨H7.out.1, H7.out.2.1⟩, ?_⟩
        clear c5 f5 H6 HO6
        generalize (w9.setCell ⟨g5, 0, none⟩ (.int .i64 (q : Int))) = w10 at *
        refine wpAnyT_step (i := 7) hcl rfl (by kernel_rfl) (fun hcl => ?_)
        simp only [List.getElem_toArray, List.getElem_cons_zero, List.getElem_cons_succ, Act.put, List.setIfInBounds_toArray, List.set_cons_zero, List.set_cons_succ]
        have c6 := H7.out.2.2.2.1.cell
        have f6 := H7.out.2.2.2.1.frozen
        go_wp2_with fail
        have H8 := hide (And.intro (H7.out.1.far (p := ⟨g6, 0, none⟩) (show g4 ≠ g6 by have := HN.out; omega) .nilIface) (And.intro (H7.out.2.1.far (p := ⟨g6, 0, none⟩) HGR.out.2.2 .nilIface) (And.intro (H7.out.2.2.1.far (p := ⟨g6, 0, none⟩) (show g5 ≠ g6 by have := HN.out; omega) .nilIface) (And.intro (H7.out.2.2.2.1.set_ 0 .nilIface) (H7.out.2.2.2.2.setCell (p := ⟨g6, 0, none⟩) (show g4 ≤ g6 by have := HN.out; omega) .nilIface)))))
        have HO8 := hide (ownB_set HO7.out (p := ⟨g6, 0, none⟩) (show g6 < W1.heap.size by have := HZ1.out; omega) .nilIface)
        refine ⟨⟨H8.out.1, H8.out.2.1⟩, ?_⟩
        clear c6 f6 H7 HO7
        generalize (w10.setCell ⟨g6, 0, none⟩ .nilIface) = w11 at *
        refine wpAnyT_done (by kernel_rfl) ?_ _
        have HR := hide (show Res3 w11 g4 g5 g6 (t.hd.cells (.slice B t.subs.length c)).toArray (.int .i64 (q : Int)) .nilIface from ⟨H8.out.1, H8.out.2.2.1, H8.out.2.2.2.1⟩)
        refine NoPanic.normal ?_
        go_wp2_with fail
        refine leaves_cons (f := 17) (args := #[.pointer (some ⟨g4, 0, none⟩), .pointer (some ⟨g5, 0, none⟩), .pointer (some ⟨g6, 0, none⟩)]) (by simp) (by simp [go_sem]) ?_
        refine (breCatch_idle g4 g5 g6 w11).mono ?_
        rintro e u' w' ⟨rfl, rfl, rfl⟩
        refine ⟨_, res3_run (h := t.hd) (v := .slice B t.subs.length c) (z := (q : Int)) (v6 := .nilIface) HR.out rfl rfl rfl, ?_⟩
        refine parseIs_ok HE.out (HO8.out.lower (by have := HZ1.out; have := HN.out; have := HG4.out; omega)) ?_
        rw [← HG4.out]
        exact H8.out.2.2.2.2

end Go.Proofs.YtfehmfifjidjjaaDoor
