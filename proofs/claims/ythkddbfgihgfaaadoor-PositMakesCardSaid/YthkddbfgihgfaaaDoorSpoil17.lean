/- trawllaw17.spoil: writes over all lists of posits; nothing but their blocks turns. -/
import Derived.Test.YthkddbfgihgfaaaDoorOnly
import Derived.Test.YthkddbfgihgfaaaDoorPosMade
import Derived.Laws.CopyOwn
set_option linter.unusedSimpArgs false
set_option linter.unusedVariables false
namespace Go.Proofs.YthkddbfgihgfaaaDoor
open Go.RowKit

/-- Blocks from lo to hi were written over; each keeps its length. -/
structure Scr (lo hi : Nat) (w w' : World) : Prop where
  only : Only (fun b => lo ≤ b ∧ b < hi) w w'
  kept : ∀ (g : Nat) (t : TypeId) (cur : Array Value), Blk w g t cur → ∃ cur', Blk w' g t cur' ∧ cur'.size = cur.size
theorem Scr.refl (lo hi : Nat) (w : World) : Scr lo hi w w := ⟨Only.refl _ _, fun g t cur h => ⟨cur, h, rfl⟩⟩
theorem Scr.trans {lo hi : Nat} {a w w' : World} (h : Scr lo hi a w) (k : Scr lo hi w w') : Scr lo hi a w' :=
  ⟨h.only.trans k.only, fun g t cur hb => by
    obtain ⟨c1, h1, e1⟩ := h.kept g t cur hb
    obtain ⟨c2, h2, e2⟩ := k.kept g t c1 h1
    exact ⟨c2, h2, e2.trans e1⟩⟩
theorem Scr.grown {lo hi g : Nat} {t : TypeId} {cur cur' : Array Value} {w w' : World} (hb : Blk w g t cur) (hg : w.grownBy w' (some g)) (hb' : Blk w' g t cur') (hs : cur'.size = cur.size) (h1 : lo ≤ g) (h2 : g < hi) : Scr lo hi w w' :=
  ⟨Only.of_grown hg (fun q hq => by have := Option.some.inj hq; omega), fun q t2 c2 hq => by
    by_cases e : q = g
    · subst e
      have e2 : t2 = t ∧ c2 = cur := by
        have := (show w.heap[q]? = _ from hq).symm.trans (show w.heap[q]? = _ from hb)
        injection this with this
        injection this with e1 e2
        exact ⟨e2, e1⟩
      rw [e2.1, e2.2]
      exact ⟨cur', hb', hs⟩
    · exact ⟨c2, hq.grown hg (fun h => e (Option.some.inj h)), rfl⟩⟩
theorem Scr.alloc {lo hi : Nat} {a w : World} (h : Scr lo hi a w) (o : Obj) : Scr lo hi a (w.alloc o) :=
  ⟨h.only.alloc o, fun g t cur hb => by
    obtain ⟨c1, h1, e1⟩ := h.kept g t cur hb
    exact ⟨c1, h1.alloc o, e1⟩⟩

theorem Scr.set {lo hi g i : Nat} {t : TypeId} {cur : Array Value} {w : World} (hb : Blk w g t cur) (v : Value) (h1 : lo ≤ g) (h2 : g < hi) : Scr lo hi w (w.setCell ⟨g, i, none⟩ v) :=
  ⟨(Only.refl _ _).setCell (.inl ⟨h1, h2⟩) v, fun q t2 c2 hq => by
    by_cases e : q = g
    · subst e
      have e2 : t2 = t ∧ c2 = cur := by
        have := (show w.heap[q]? = _ from hq).symm.trans (show w.heap[q]? = _ from hb)
        injection this with this
        injection this with e1 e2
        exact ⟨e2, e1⟩
      rw [e2.1, e2.2]
      exact ⟨_, heap_setCell_same w q i _ _ v hb, by simp⟩
    · exact ⟨c2, hq.far (p := ⟨g, i, none⟩) e v, rfl⟩⟩

/-- A list of n places of E, sz cells each, that may be written over. -/
def Wip (lo hi : Nat) (E : TypeId) (sz : Nat) (w : World) (v : Value) (n : Nat) : Prop :=
  (v = .slice none 0 0 ∧ n = 0) ∨ ∃ g c cur, v = .slice (some ⟨g, 0, none⟩) n c ∧ lo ≤ g ∧ g < hi ∧ Blk w g E cur ∧ n * sz ≤ cur.size
theorem Wip.scr {lo hi sz n : Nat} {E : TypeId} {w w' : World} {v : Value} (h : Wip lo hi E sz w v n) (k : Scr lo hi w w') : Wip lo hi E sz w' v n := by
  rcases h with h | ⟨g, c, cur, e, h1, h2, h3, h4⟩
  · exact .inl h
  · obtain ⟨c1, h5, e5⟩ := k.kept _ _ _ h3
    exact .inr ⟨g, c, c1, e, h1, h2, h5, by omega⟩
theorem Wip.of_own {lo hi sz n : Nat} {E : TypeId} {w : World} {v : Value} {l : List Value} (h : w.ownsRow lo E sz v n l) (hl : n * sz ≤ l.length) (hhi : w.heap.size ≤ hi) : Wip lo hi E sz w v n := by
  rcases h.2 with ⟨e, h0⟩ | ⟨g, cap, cur, e, hb, hg, hn, hc, hz, hx⟩
  · exact .inl ⟨e, h0⟩
  · refine .inr ⟨g, cap, cur, e, hb, by have := (World.ownsRow.lt h g (by rw [e]; rfl)).2; omega, hg, ?_⟩
    have h9 := congrArg List.length hx
    simp only [List.length_take] at h9
    have : cur.toList.length = cur.size := by simp
    omega

/-- What holds no edges stays. -/
def Others (w w' : World) : Prop := ∀ (g : Nat) (t : TypeId) (cur : Array Value), t ≠ 58 → Blk w g t cur → Blk w' g t cur
theorem Others.refl (w : World) : Others w w := fun _ _ _ _ h => h
theorem Others.trans {a w w' : World} (h : Others a w) (k : Others w w') : Others a w' := fun g t cur ht hb => k g t cur ht (h g t cur ht hb)
theorem Tryd.sizeEdge17 : (Tryd.prog.info? 58).map (·.size) = some 2 := by kernel_rfl
set_option maxRecDepth 100000 in
set_option maxHeartbeats 2000000 in
theorem wipe17_any (lo hi n : Nat) (v : Value) (w : World) (hn : n ≤ 1000000) (h : Wip lo hi 58 2 w v n) :
    Calls Tryd.prog 49 #[v] w fun e w' => e = .returned (.tuple #[]) ∧ Scr lo hi w w' ∧ Others w w' := by
  rcases h with ⟨rfl, rfl⟩ | ⟨g, c, cur, rfl, h1, h2, h3, h4⟩
  · go_enter Tryd.func49, Tryd.ntmps49
    go_wp2_with fail
    refine wp_loop_rounds 1 ?_
    rw [rounds_succ]
    go_wp2_with fail
    go_end0
    exact ⟨rfl, Scr.refl _ _ _, Others.refl _⟩
  · have HB := hide h3
    clear h3
    go_enter Tryd.func49, Tryd.ntmps49
    go_wp2_with fail
    go_loopw [5] (fun kv wr => ∃ k : Nat, kv = .int .i64 (k : Int) ∧ k ≤ n ∧ Scr lo hi w wr ∧ Others w wr) (fun kv _ => n - (intOf kv).toNat)
    case atStart => exact ⟨0, rfl, Nat.zero_le _, Scr.refl _ _ _, Others.refl _⟩
    case round =>
      obtain ⟨k, rfl, hk, hS, hO⟩ := hrel
      have HS := hide hS
      have HO := hide hO
      clear hO
      obtain ⟨c1, hb1, hz1⟩ := hS.kept _ _ _ HB.out
      have HB1 := hide hb1
      clear hS hb1
      by_cases hlt : k < n
      · have g1 : decide ((k : Int) < (n : Int)) = true := decide_eq_true (by omega)
        go_wp2_with (refine wpList_store_row rfl _ _ _ rfl g (k * 2) _ _ _ rfl rfl HB1.out Tryd.sizeEdge17 (by simp; omega) (by simp [Value.oneCell']) ?_)
        intro w2 hrow2 hg2 hz2
        have hlen : (splice c1.toList (k * 2) [Value.int .i64 (-5), .int .i64 99]).toArray.size = c1.size := by
          rw [List.size_toArray, length_splice _ _ _ (by simp; omega)]
          simp
        have H2 := hide (And.intro (HS.out.trans (Scr.grown HB1.out hg2 hrow2.out hlen h1 h2)) (HO.out.trans (fun q t cur ht hq => hq.grown hg2 (fun e => by
          have e := Option.some.inj e
          subst e
          exact hq.ne_type HB1.out ht rfl))))
        clear hrow2 hg2 hz2 hlen HS HB1
        go_wp2_with fail
        go_roundw
        case rel => exact ⟨k + 1, by go_num, hlt, H2.out.1, H2.out.2⟩
        case measure => simp [intOf]; omega
      · have g1 : decide ((k : Int) < (n : Int)) = false := decide_eq_false (by omega)
        go_wp2_with fail
        go_end0
        exact ⟨rfl, HS.out, HO.out⟩

theorem Tryd.sizeSet17 : (Tryd.prog.info? 24).map (·.size) = some 4 := by kernel_rfl
/-- The rows that follow may be written over. -/
def WipF (lo hi : Nat) (w : World) (v : Value) (n : Nat) : Prop :=
  (v = .slice none 0 0 ∧ n = 0) ∨ ∃ g c cur, v = .slice (some ⟨g, 0, none⟩) n c ∧ lo ≤ g ∧ g < hi ∧ Blk w g 33 cur ∧ n ≤ cur.size ∧ ∀ i, i < n → ∃ u m, cur[i]? = some u ∧ m ≤ 1000000 ∧ Wip lo hi 58 2 w u m

set_option maxRecDepth 100000 in
set_option maxHeartbeats 4000000 in
theorem spoil17_any (lo hi n0 n1 n2 n3 : Nat) (nu : Int) (sv v1 v2 fv : Value) (w : World) (hn : n0 ≤ 1000000 ∧ n1 ≤ 1000000 ∧ n2 ≤ 1000000 ∧ n3 ≤ 1000000) (hhi : hi ≤ w.heap.size) (h0 : Wip lo hi 24 4 w sv n0) (h1 : Wip lo hi 58 2 w v1 n1) (h2 : Wip lo hi 58 2 w v2 n2) (h3 : WipF lo hi w fv n3) :
    Calls Tryd.prog 17 #[.agg #[sv, .int .i64 nu, v1, v2, fv]] w fun e w' => e = .returned (.tuple #[]) ∧ Only (fun b => lo ≤ b ∧ b < hi) w w' := by
  obtain ⟨a0, a1, a2, a3⟩ := hn
  have hS0 := (Scr.refl lo hi w).alloc (.cells #[sv, .int .i64 nu, v1, v2, fv] 36)
  have hbx := Blk.new w 36 #[sv, .int .i64 nu, v1, v2, fv]
  have HH := hide (And.intro (h0.scr hS0) (And.intro (h1.scr hS0) (And.intro (h2.scr hS0) (And.intro h3 (And.intro hbx (And.intro hS0 (fun (g : Nat) (t : TypeId) (cur : Array Value) (hq : Blk w g t cur) => hq.alloc (.cells #[sv, .int .i64 nu, v1, v2, fv] 36))))))))
  obtain ⟨As, cs, rfl⟩ : ∃ As cs, sv = .slice As n0 cs := by
    rcases h0 with ⟨e, e0⟩ | ⟨g, c, cur, e, _⟩
    · exact ⟨_, _, by rw [e, e0]⟩
    · exact ⟨_, _, e⟩
  obtain ⟨Af, cf, rfl⟩ : ∃ As cs, fv = .slice As n3 cs := by
    rcases h3 with ⟨e, e0⟩ | ⟨g, c, cur, e, _⟩
    · exact ⟨_, _, by rw [e, e0]⟩
    · exact ⟨_, _, e⟩
  have hsz : w.heap.size < (w.alloc (.cells #[.slice As n0 cs, .int .i64 nu, v1, v2, .slice Af n3 cf] 36)).heap.size := by simp
  have HF3 := hide h3
  clear h0 h1 h2 h3 hbx hS0
  have cb := HH.out.2.2.2.2.1.cell
  go_enter Tryd.func17, Tryd.ntmps17
  go_wp2_with fail
  clear cb
  generalize (w.alloc (.cells #[.slice As n0 cs, .int .i64 nu, v1, v2, .slice Af n3 cf] 36)) = W at *
  go_loopw [7] (fun kv wr => ∃ k : Nat, kv = .int .i64 (k : Int) ∧ k ≤ n0 ∧ Scr lo hi W wr ∧ Blk wr w.heap.size 36 #[.slice As n0 cs, .int .i64 nu, v1, v2, .slice Af n3 cf] ∧ ∀ (g : Nat) (t : TypeId) (cur : Array Value), t ≠ 24 → Blk W g t cur → Blk wr g t cur) (fun kv _ => n0 - (intOf kv).toNat)
  case atStart => exact ⟨0, rfl, Nat.zero_le _, Scr.refl _ _ _, HH.out.2.2.2.2.1, fun _ _ _ _ h => h⟩
  case round =>
    obtain ⟨k, rfl, hk, hS, hb, hO⟩ := hrel
    have HS := hide (And.intro hS (And.intro hb hO))
    clear hS hb hO
    by_cases hlt : k < n0
    · have g1 : decide ((k : Int) < (n0 : Int)) = true := decide_eq_true (by omega)
      rcases HH.out.1.scr HS.out.1 with ⟨_, e0⟩ | ⟨g, c, cur, e, q1, q2, q3, q4⟩
      · omega
      injection e with e1 e2 e3
      subst e1
      subst e3
      have HB := hide q3
      clear q3
      have cb := HS.out.2.1.cell
      go_wp2_with (refine wpList_store_row rfl _ _ _ rfl g (k * 4) _ _ _ rfl rfl HB.out Tryd.sizeSet17 (by simp; omega) (by simp [Value.oneCell']) ?_)
      intro w2 hrow2 hg2 hz2
      have hlen : (splice cur.toList (k * 4) [Value.int .u64 7, .int .u64 0, .int .u64 0, .int .u64 0]).toArray.size = cur.size := by
        rw [List.size_toArray, length_splice _ _ _ (by simp; omega)]
        simp
      have hne : w.heap.size ≠ g := by omega
      have H2 := hide (And.intro (HS.out.1.trans (Scr.grown HB.out hg2 hrow2.out hlen q1 q2)) (And.intro (HS.out.2.1.grown hg2 (fun e => hne (Option.some.inj e))) (fun (q : Nat) (t : TypeId) (c2 : Array Value) (ht : t ≠ 24) (hq : Blk W q t c2) => (HS.out.2.2 q t c2 ht hq).grown hg2 (fun e => by
          have e := Option.some.inj e
          subst e
          exact (HS.out.2.2 q t c2 ht hq).ne_type HB.out ht rfl))))
      clear hrow2 hg2 hz2 hlen HS HB cb
      go_wp2_with fail
      go_roundw
      case rel => exact ⟨k + 1, by go_num, hlt, H2.out.1, H2.out.2.1, H2.out.2.2⟩
      case measure => simp [intOf]; omega
    · have g1 : decide ((k : Int) < (n0 : Int)) = false := decide_eq_false (by omega)
      have h1 := hide (wipe17_any lo hi n1 v1 wr a1 (HH.out.2.1.scr HS.out.1))
      have cb := HS.out.2.1.cell
      go_wp2_with fail
      refine h1.out.mono ?_
      rintro e w2 ⟨rfl, hs2, ho2⟩
      have H2 := hide (And.intro (HS.out.1.trans hs2) (And.intro (ho2 _ _ _ (by decide) HS.out.2.1) (fun (g : Nat) (cur : Array Value) (hq : Blk W g 33 cur) => ho2 _ _ _ (by decide) (HS.out.2.2 g _ cur (by decide) hq))))
      clear hs2 ho2 HS cb h1
      have h2 := hide (wipe17_any lo hi n2 v2 w2 a2 (HH.out.2.2.1.scr H2.out.1))
      have cb := H2.out.2.1.cell
      go_wp2_with fail
      refine h2.out.mono ?_
      rintro e w3 ⟨rfl, hs3, ho3⟩
      have H3 := hide (And.intro (H2.out.1.trans hs3) (And.intro (ho3 _ _ _ (by decide) H2.out.2.1) (fun (g : Nat) (cur : Array Value) (hq : Blk W g 33 cur) => ho3 _ _ _ (by decide) (H2.out.2.2 g cur hq))))
      clear hs3 ho3 H2 cb h2
      have cb := H3.out.2.1.cell
      go_wp2_with fail
      clear cb g1
      rcases HF3.out with ⟨e, rfl⟩ | ⟨g, c, cur, e, q1, q2, q3, q4, q5⟩
      · refine wp_loop_rounds 1 ?_
        rw [rounds_succ]
        go_wp2_with fail
        go_end0
        exact ⟨rfl, HH.out.2.2.2.2.2.1.only.trans H3.out.1.only⟩
      injection e with e1 e2 e3
      subst e1
      subst e3
      have hgw : g ≠ w.heap.size := by omega
      have HQ := hide q5
      have HG := hide (H3.out.2.2 g cur (HH.out.2.2.2.2.2.2 _ _ _ q3))
      have hcs := q4
      clear q3 q4 q5
      go_loopw [25] (fun kv wr => ∃ k : Nat, kv = .int .i64 (k : Int) ∧ k ≤ n3 ∧ Scr lo hi W wr ∧ Blk wr w.heap.size 36 #[.slice As n0 cs, .int .i64 nu, v1, v2, .slice (some ⟨g, 0, none⟩) n3 cf] ∧ ∃ cur2, Blk wr g 33 cur2 ∧ Hid (cur2.size = cur.size) ∧ ∀ i, k ≤ i → cur2[i]? = cur[i]?) (fun kv _ => n3 - (intOf kv).toNat)
      case atStart => exact ⟨0, rfl, Nat.zero_le _, H3.out.1, H3.out.2.1, cur, HG.out, hide rfl, fun _ _ => rfl⟩
      case round =>
        clear H3 HG
        obtain ⟨j, rfl, hj, hS, hb, cur2, hg, hcz, hc2⟩ := hrel
        have HS := hide (And.intro hS (And.intro hb (And.intro hg hc2)))
        clear hS hb hg hc2
        by_cases hlt3 : j < n3
        · have g2 : decide ((j : Int) < (n3 : Int)) = true := decide_eq_true (by omega)
          obtain ⟨u, m, hu, hm, hw⟩ := HQ.out j hlt3
          have hcell : wr.cell? ⟨g, j, none⟩ = some u := by rw [HS.out.2.2.1.cell, HS.out.2.2.2 j (Nat.le_refl _), hu]
          have h5 := hide (wipe17_any lo hi m u wr hm ((hw.scr HH.out.2.2.2.2.2.1).scr HS.out.1))
          have HU := hide hu
          clear hu hw
          have cb := HS.out.2.1.cell
          go_wp2_with fail
          refine h5.out.mono ?_
          rintro e w5 ⟨rfl, hs5, ho5⟩
          have H5 := hide (And.intro (HS.out.1.trans hs5) (And.intro (ho5 _ _ _ (by decide) HS.out.2.1) (ho5 _ _ _ (by decide) HS.out.2.2.1)))
          have HC2 := hide HS.out.2.2.2
          clear hs5 ho5 HS cb hcell h5
          have cb := H5.out.2.1.cell
          have hcell : ∃ u', w5.cell? ⟨g, j, none⟩ = some u' := by
            rw [H5.out.2.2.cell]
            exact ⟨u, by rw [HC2.out j (Nat.le_refl _), HU.out]⟩
          obtain ⟨u', hcell⟩ := hcell
          have fr := H5.out.2.2.frozen j
          go_wp2_with fail
          go_roundw
          case rel =>
            refine ⟨j + 1, by go_num, hlt3, H5.out.1.trans (Scr.set H5.out.2.2 _ q1 q2), H5.out.2.1.far (by show w.heap.size ≠ g; omega) _, _, heap_setCell_same w5 g j _ _ _ H5.out.2.2, hide (by rw [← hcz.out]; simp), fun i hi => ?_⟩
            rw [Array.getElem?_setIfInBounds_ne (by omega)]
            exact HC2.out i (by omega)
          case measure => simp [intOf]; omega
        · have g2 : decide ((j : Int) < (n3 : Int)) = false := decide_eq_false (by omega)
          go_wp2_with fail
          go_end0
          exact ⟨rfl, HH.out.2.2.2.2.2.1.only.trans HS.out.1.only⟩

theorem flat_se_len : ∀ l : List Se, (l.flatMap Se.cells).length = l.length * 4
  | [] => rfl
  | e :: l => by rw [List.flatMap_cons, List.length_append, flat_se_len l]; simp [Se.cells]; omega
theorem flat_ed_len : ∀ l : List Ed, (l.flatMap Ed.cells).length = l.length * 2
  | [] => rfl
  | e :: l => by rw [List.flatMap_cons, List.length_append, flat_ed_len l]; simp [Ed.cells]; omega
theorem WipF.of_own {lo hi : Nat} {p : Po} {sv v1 v2 fv : Value} {vs : List Value} {w : World} (h : OwnPo lo p sv v1 v2 fv vs w) (hhi : w.heap.size ≤ hi) (hr : ∀ r ∈ p.follow, r.length ≤ 1000000) : WipF lo hi w fv p.follow.length := by
  have hlen := h.len
  rcases h.own.2 with ⟨rfl, h0⟩ | ⟨q, cap, cur, rfl, hb, hg, hn, hc, hz, hx⟩
  · exact .inl ⟨rfl, by omega⟩
  · have h9 := congrArg List.length hx
    simp only [List.length_take] at h9
    have h8 : cur.toList.length = cur.size := by simp
    refine .inr ⟨q, cap, cur, by rw [hlen], hb, by have := (World.ownsRow.lt h.own q rfl).2; omega, hg, by omega, fun i hi => ?_⟩
    have hf := List.getElem?_eq_getElem hi
    obtain ⟨u, hu, hou⟩ := h.each i _ hf
    refine ⟨u, p.follow[i].length, ?_, hr _ (List.getElem_mem hi), Wip.of_own hou (by rw [flat_ed_len]; omega) hhi⟩
    rw [← hx, List.getElem?_take_of_lt (by omega)] at hu
    simpa using hu
/-- spoil over posits of the call's own. -/
theorem spoil17_own {lo hi : Nat} {p : Po} {sv v1 v2 fv : Value} {vs : List Value} {w0 w : World} (h : OwnPo lo p sv v1 v2 fv vs w0) (hhi : hi = w0.heap.size) (hb : Below w0.heap.size w0 w) (hl : p.sets.length ≤ 1000000 ∧ p.first.length ≤ p.sets.length ∧ p.last.length ≤ p.sets.length ∧ p.follow.length ≤ p.sets.length ∧ ∀ r ∈ p.follow, r.length ≤ p.sets.length) (nu : Int) :
    Calls Tryd.prog 17 #[.agg #[sv, .int .i64 nu, v1, v2, fv]] w fun e w' => e = .returned (.tuple #[]) ∧ Only (fun b => lo ≤ b ∧ b < hi) w w' := by
  obtain ⟨l0, l1, l2, l3, l4⟩ := hl
  subst hhi
  have hS : ∀ (g : Nat) (t : TypeId) (cur : Array Value), Blk w0 g t cur → Blk w g t cur := fun g t cur hq => hq.nxt hb
  have hw : ∀ {E : TypeId} {sz n : Nat} {v : Value}, Wip lo w0.heap.size E sz w0 v n → Wip lo w0.heap.size E sz w v n := fun h => by
    rcases h with h | ⟨g, c, cur, e, h1, h2, h3, h4⟩
    · exact .inl h
    · exact .inr ⟨g, c, cur, e, h1, h2, hS _ _ _ h3, h4⟩
  refine spoil17_any lo w0.heap.size p.sets.length p.first.length p.last.length p.follow.length nu sv v1 v2 fv w ⟨by omega, by omega, by omega, by omega⟩ hb.size (hw (Wip.of_own h.sets (by rw [flat_se_len]; omega) (Nat.le_refl _))) (hw (Wip.of_own h.e1 (by rw [flat_ed_len]; omega) (Nat.le_refl _))) (hw (Wip.of_own h.e2 (by rw [flat_ed_len]; omega) (Nat.le_refl _))) ?_
  rcases WipF.of_own h (Nat.le_refl _) (fun r hr => by have := l4 r hr; omega) with h9 | ⟨g, c, cur, e, h1, h2, h3, h4, h5⟩
  · exact .inl h9
  · exact .inr ⟨g, c, cur, e, h1, h2, hS _ _ _ h3, h4, fun i hi => by
      obtain ⟨u, m, a1, a2, a3⟩ := h5 i hi
      exact ⟨u, m, a1, a2, hw a3⟩⟩
end Go.Proofs.YthkddbfgihgfaaaDoor
