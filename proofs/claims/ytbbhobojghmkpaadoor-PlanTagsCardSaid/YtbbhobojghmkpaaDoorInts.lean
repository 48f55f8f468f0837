/- Lists of integers that a call makes; trawlnum.SameInts. -/
import Derived.Test.YtbbhobojghmkpaaDoorProg
import Derived.Test.YtbbhobojghmkpaaDoorMem
import Derived.Maps.AppendAt
import Derived.Outline
set_option linter.unusedSimpArgs false
set_option linter.unusedVariables false
namespace Go.Proofs.YtbbhobojghmkpaaDoor
open Go.RowKit

theorem Tryd.infoInt : (Tryd.prog.info? 3).map (fun i => (i.zero, i.size, i.bytes)) = some (some (.int .i64 0), 1, 8) := by kernel_rfl

/-- The list v holds the numbers l, in memory from block base on. -/
def OwnInts (base : Nat) (w : World) (v : Value) (l : List Int) : Prop := w.ownsRow base 3 1 v l.length (l.map fun n => Value.int .i64 n)

section
variable {base : Nat} {w w' : World} {v : Value} {l : List Int}
theorem OwnInts.nil (base : Nat) (w : World) : OwnInts base w (.slice none 0 0) [] := World.ownsRow_nil _ _ _ _
theorem OwnInts.same {ok : Nat → Prop} (h : OwnInts base w v l) (hs : Same ok w w') (hk : ∀ g, v.ownBlock = some g → ok g) : OwnInts base w' v l := by
  refine ⟨h.1, ?_⟩
  rcases h.2 with h | ⟨g, cap, cur, e, hb, hg, r⟩
  · exact .inl h
  · exact .inr ⟨g, cap, cur, e, hb, (hs g (hk g (by rw [e]; rfl))).trans hg, r⟩
theorem OwnInts.below {B : Nat} (h : OwnInts base w v l) (hb : Below B w w') (hB : w.heap.size ≤ B) : OwnInts base w' v l :=
  h.same (same_of_below hb) fun g hg => Nat.lt_of_lt_of_le (World.ownsRow.lt h g hg).2 hB
theorem OwnInts.made {g : Nat} (h : Blk w g 3 (l.map fun n => Value.int .i64 n).toArray) (hm : l.length ≤ 1000000) : OwnInts g w (.slice (some ⟨g, 0, none⟩) l.length l.length) l :=
  ⟨by simp, .inr ⟨g, l.length, _, rfl, Nat.le_refl _, h, Nat.le_refl _, by simp only [maxLen]; omega, by simp, by rw [Nat.mul_one]; exact List.take_of_length_le (by simp)⟩⟩
theorem OwnInts.form (h : OwnInts base w v l) : ∃ A c, v = .slice A l.length c ∧ l.length ≤ 9223372036854775807 ∧ ∀ i n, l[i]? = some n → ∃ g, A = some ⟨g, 0, none⟩ ∧ base ≤ g ∧ g < w.heap.size ∧ w.cell? ⟨g, i, none⟩ = some (.int .i64 n) := by
  rcases h.2 with ⟨e, h0⟩ | ⟨g, cap, cur, e, hb, hg, hn, hc, _⟩
  · refine ⟨none, 0, by rw [e, h0], by omega, fun i n hi => ?_⟩
    rw [List.eq_nil_of_length_eq_zero h0] at hi
    simp at hi
  · refine ⟨some ⟨g, 0, none⟩, cap, e, by simp only [maxLen] at hc; omega, fun i n hi => ⟨g, rfl, hb, (World.ownsRow.lt h g (by rw [e]; rfl)).2, ?_⟩⟩
    have := World.ownsRow.cells h (g := g) (by rw [e]; rfl) i (.int .i64 n) (by rw [List.getElem?_map, hi]; rfl)
    rwa [Addr.add_lit, Nat.zero_add] at this
end

section
variable {w : World} {ops : Array Oper} {rest : List Oper} {o : Oper} {a : Act} {Q : Exit → Act → World → Prop}
theorem wpList_append_int (hgd : o.guard = none) (s x : Operand) (ho : o.op = .call { callee := .builtin .append, args := #[s, x], argTypes := #[55, 55] })
    (base : Nat) (v : Value) (l : List Int) (hs : a.eval s = v) (hg : OwnInts base w v l) (n : Int) (g cap : Nat)
    (hx : a.eval x = .slice (some ⟨g, 0, none⟩) 1 cap) (hb : Blk w g 3 #[.int .i64 n]) (hl : l.length < 1000000) (hbase : base ≤ w.heap.size)
    (h : ∀ v' w', OwnInts base w' v' (l ++ [n]) → w.grownBy w' v.ownBlock → wpList Tryd.prog ops Q rest (a.put o.dst v') w') : wpList Tryd.prog ops Q (o :: rest) a w := by
  obtain ⟨i, hi, hz0, hz1, hz2⟩ := info_parts Tryd.infoInt
  refine wpList_append_own_at w hgd s x 55 ho base 3 i _ 1 8 Tryd.underlying55 hi hz0 hz1 hz2 rfl (by decide) v l.length _ hs hg ⟨g, 0, none⟩ 1 cap [.int .i64 n] hx rfl ?_ (by simp [Value.oneCell']) (by simp only [maxLen]; omega) (by omega) hbase ?_
  · intro j u hu
    rw [Addr.add_lit, Nat.zero_add, hb.cell]
    simpa using hu
  intro v' w' hown hgr _ _
  refine h v' w' ?_ hgr
  simpa [OwnInts] using hown
end

theorem below_drewN {B : Nat} {w w' : World} (h : Below B w w') (n : Nat) : Below B w (w'.drewN n) := ⟨h.os, h.tape, h.output, h.size, h.block⟩

set_option maxRecDepth 100000 in
set_option maxHeartbeats 1000000 in
theorem sameInts_any {b1 b2 : Nat} {v1 v2 : Value} {l1 l2 : List Int} (w : World) (h1 : OwnInts b1 w v1 l1) (h2 : OwnInts b2 w v2 l2) :
    Calls Tryd.prog 39 #[v1, v2] w fun e w' => e = .returned (.bool (decide (l1 = l2))) ∧ Below w.heap.size w w' := by
  obtain ⟨A1, c1, rfl, m1, k1⟩ := h1.form
  obtain ⟨A2, c2, rfl, m2, k2⟩ := h2.form
  clear h1 h2
  by_cases hl : l1.length = l2.length
  case neg =>
    have g0 : ((l1.length : Int) != (l2.length : Int)) = true := bne_iff_ne.2 (by omega)
    have hne : decide (l1 = l2) = false := decide_eq_false fun e => hl (by rw [e])
    rw [hne]
    clear hne
    go_enter Tryd.func39, Tryd.ntmps39
    go_wp2_with fail
    go_ret
    exact ⟨rfl, Below.refl _ _⟩
  case pos =>
    rw [← hl]
    rw [← hl] at m2
    have HL := hide hl
    clear hl
    have HK := hide (And.intro k1 k2)
    clear k1 k2
    obtain ⟨res, hres⟩ : ∃ r, r = decide (l1 = l2) := ⟨_, rfl⟩
    rw [← hres]
    have HR := hide hres
    clear hres
    go_enter Tryd.func39, Tryd.ntmps39
    go_wp2_with fail
    go_loopw [13] (fun kv wr => ∃ k : Nat, kv = .int .i64 k ∧ k ≤ l1.length ∧ l1.take k = l2.take k ∧ Below w.heap.size w wr) (fun kv _ => l1.length - (intOf kv).toNat)
    case atStart => exact ⟨0, rfl, Nat.zero_le _, by simp, Below.refl _ _⟩
    case round =>
      obtain ⟨k, rfl, hk, htake, hbel⟩ := hrel
      by_cases hlt : k < l1.length
      · have g1 : decide ((k : Int) < (l1.length : Int)) = true := decide_eq_true (by omega)
        have hlt2 : k < l2.length := by have := HL.out; omega
        obtain ⟨ga, rfl, _, za, ca⟩ := HK.out.1 k _ (List.getElem?_eq_getElem hlt)
        obtain ⟨gb, rfl, _, zb, cb⟩ := HK.out.2 k _ (List.getElem?_eq_getElem hlt2)
        have ca' := (hbel.cell (p := ⟨ga, k, none⟩) za).trans ca
        have cb' := (hbel.cell (p := ⟨gb, k, none⟩) zb).trans cb
        have e1 : l1.take (k + 1) = l1.take k ++ [l1[k]] := by rw [List.take_add_one, List.getElem?_eq_getElem hlt]; rfl
        have e2 : l2.take (k + 1) = l2.take k ++ [l2[k]] := by rw [List.take_add_one, List.getElem?_eq_getElem hlt2]; rfl
        generalize l1[k] = x at *
        generalize l2[k] = y at *
        have HT := hide (And.intro htake (And.intro e1 (And.intro e2 hbel)))
        clear htake e1 e2 hbel ca cb
        by_cases hxy : x = y
        · subst hxy
          go_wp2_with fail
          go_quiet (fail)
          go_wp2_with fail
          go_roundw
          case rel => exact ⟨k + 1, by go_num, hlt, by rw [HT.out.2.1, HT.out.2.2.1, HT.out.1], below_drewN HT.out.2.2.2 _⟩
          case measure => simp [intOf]; omega
        · have g2 : (x != y) = true := by simp [hxy]
          have hr : res = false := by
            rw [HR.out]
            refine decide_eq_false fun e => hxy ?_
            have h1 := HT.out.2.1
            have h2 := HT.out.2.2.1
            rw [e, h2] at h1
            have := List.append_inj' h1 rfl
            simpa using this.2.symm
          have HRR := hide hr
          clear hr
          go_wp2_with fail
          go_quiet (fail)
          go_wp2_with fail
          go_ret
          exact ⟨by rw [HRR.out]; rfl, below_drewN HT.out.2.2.2 _⟩
      · have g1 : decide ((k : Int) < (l1.length : Int)) = false := decide_eq_false (by omega)
        have hr : res = true := by
          rw [HR.out]
          refine decide_eq_true ?_
          rw [List.take_of_length_le (by omega), List.take_of_length_le (by have := HL.out; omega)] at htake
          exact htake
        have HRR := hide hr
        clear hr
        go_wp2_with fail
        go_ret
        exact ⟨by rw [HRR.out]; rfl, hbel⟩
end Go.Proofs.YtbbhobojghmkpaaDoor
