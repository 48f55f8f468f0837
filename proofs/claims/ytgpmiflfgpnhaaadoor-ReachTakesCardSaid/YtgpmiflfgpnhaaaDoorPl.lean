/- trawlref11.Places: lists of truths; None, Only, some, both, without. -/
import Derived.Test.YtgpmiflfgpnhaaaDoorRef10
import Derived.Test.YtgpmiflfgpnhaaaDoorEnds
set_option linter.unusedSimpArgs false
set_option linter.unusedVariables false
namespace Go.Proofs.YtgpmiflfgpnhaaaDoor
open Go.RowKit

theorem Tryd.infoBool : (Tryd.prog.info? 4).map (fun i => (i.zero, i.size, i.bytes)) = some (some (.bool false), 1, 1) := by kernel_rfl

/-- Block g holds n + 1 truths, p tells them. -/
def BRow (w : World) (g n : Nat) (p : Nat → Bool) : Prop := ∃ row : Array Value, Blk w g 4 row ∧ row.size = n + 1 ∧ ∀ i, i ≤ n → row[i]? = some (.bool (p i))

section
variable {w w' : World} {g n : Nat} {p : Nat → Bool}
theorem BRow.cell (h : BRow w g n p) (i : Nat) (hi : i ≤ n) : w.cell? ⟨g, i, none⟩ = some (.bool (p i)) := by
  obtain ⟨row, h1, _, h3⟩ := h
  rw [h1.cell, h3 i hi]
theorem BRow.frozen (h : BRow w g n p) (i : Nat) : w.frozen? ⟨g, i, none⟩ = false := by
  obtain ⟨row, h1, _, _⟩ := h
  exact h1.frozen i
theorem BRow.lt (h : BRow w g n p) : g < w.heap.size := by obtain ⟨row, h1, _⟩ := h; exact h1.lt
theorem BRow.same {ok : Nat → Prop} (h : BRow w g n p) (hs : Same ok w w') (hm : ok g) : BRow w' g n p := by
  obtain ⟨row, h1, h2⟩ := h
  exact ⟨row, h1.same hs hm, h2⟩
theorem BRow.below {B : Nat} (h : BRow w g n p) (hb : Below B w w') (hg : g < B) : BRow w' g n p := by
  obtain ⟨row, h1, h2⟩ := h
  exact ⟨row, h1.below hb hg, h2⟩
theorem BRow.next (h : BRow w g n p) (hb : Below w.heap.size w w') : BRow w' g n p := h.below hb h.lt
theorem BRow.alloc (h : BRow w g n p) (o : Obj) : BRow (w.alloc o) g n p := h.next ((Below.refl _ _).alloc (Nat.le_refl _) _)
theorem BRow.set (h : BRow w g n p) (i : Nat) (v : Bool) (hi : i ≤ n) : BRow (w.setCell ⟨g, i, none⟩ (.bool v)) g n (fun j => if j = i then v else p j) := by
  obtain ⟨row, h1, h2, h3⟩ := h
  refine ⟨row.setIfInBounds i (.bool v), heap_setCell_same w g i row _ _ h1, by simp [h2], fun j hj => ?_⟩
  by_cases hij : i = j
  · subst hij; simp [show i < row.size by omega]
  · rw [Array.getElem?_setIfInBounds_ne hij, h3 j hj]
    simp [show ¬ j = i from fun e => hij e.symm]
theorem BRow.far (h : BRow w g n p) {a : Addr} (ha : g ≠ a.block) (u : Value) : BRow (w.setCell a u) g n p := by
  obtain ⟨row, h1, h2⟩ := h
  exact ⟨row, h1.far ha u, h2⟩
theorem BRow.congr {q : Nat → Bool} (h : BRow w g n p) (e : ∀ i, i ≤ n → p i = q i) : BRow w g n q := by
  obtain ⟨row, h1, h2, h3⟩ := h
  exact ⟨row, h1, h2, fun i hi => by rw [h3 i hi, e i hi]⟩
theorem BRow.new (w : World) (n : Nat) : BRow (w.alloc (.cells (madeCells #[.bool false] (n + 1)) 4)) w.heap.size n (fun _ => false) := by
  refine ⟨_, Blk.new w _ _, by simp [madeCells], fun i hi => ?_⟩
  simp [madeCells, show i < n + 1 by omega, Nat.mod_one]
end

/-- The list v holds the places f. -/
def PlV (w : World) (v : Value) (n f : Nat) : Prop := ∃ g, v = .slice (some ⟨g, 0, none⟩) (n + 1) (n + 1) ∧ BRow w g n f.testBit
theorem PlV.next {w w' : World} {v : Value} {n f : Nat} (h : PlV w v n f) (hb : Below w.heap.size w w') : PlV w' v n f := by
  obtain ⟨g, h1, h2⟩ := h
  exact ⟨g, h1, h2.next hb⟩

theorem run_bools (n : Nat) (hn : n ≤ 140737488355328) (W : World) : (Instr.makeSlice 115 (.int .i64 ((n : Int) + 1)) (.int .i64 ((n : Int) + 1))).run Tryd.prog W = .ok (.slice (some ⟨W.heap.size, 0, none⟩) (n + 1) (n + 1)) (W.alloc (.cells (madeCells #[.bool false] (n + 1)) 4)) := by
  obtain ⟨i0, hi, hz0, hz1, hz2⟩ := info_parts Tryd.infoBool
  have hmk := run_make_rowN (P := Tryd.prog) 115 4 i0 _ Tryd.underlying115 hi hz0 .i64 .i64 (n + 1) (n + 1) (Nat.le_refl _) (by rw [hz2]; omega) (by omega) W
  rw [hz1] at hmk
  have hcast : ((n + 1 : Nat) : Int) = (n : Int) + 1 := by omega
  simp only [hcast, Nat.mul_one] at hmk
  exact hmk

section
variable (s : ByteArray) (cf ef : Int) (hs : s.size ≤ 140737488355328)
include hs

/-- A new list of truths was returned. -/
def NewRow (n : Nat) (p : Nat → Bool) (w : World) (e : Ending) (w' : World) : Prop := ∃ g, e = .returned (.slice (some ⟨g, 0, none⟩) (n + 1) (n + 1)) ∧ BRow w' g n p ∧ w.heap.size ≤ g ∧ Below w.heap.size w w'

set_option maxHeartbeats 1000000 in
theorem none_any (w : World) : Calls Tryd.prog 90 #[.agg #[.string s, .int .i64 cf, .int .i64 ef, .bool false]] w (NewRow s.size (fun _ => false) w) := by
  have hmk := run_bools s.size hs
  go_enter Tryd.func90, Tryd.ntmps90
  go_wp2_with fail
  have h1 := BRow.new (w.alloc (.cells #[.string s, .int .i64 cf, .int .i64 ef, .bool false] 34)) s.size
  rw [World.size_alloc] at h1
  go_ret
  exact ⟨_, rfl, h1, by omega, ((Below.refl _ _).alloc (Nat.le_refl _) _).alloc (by simp) _⟩

set_option maxHeartbeats 1000000 in
theorem only_any (i : Nat) (hi : i ≤ s.size) (w : World) : Calls Tryd.prog 66 #[.agg #[.string s, .int .i64 cf, .int .i64 ef, .bool false], .int .i64 i] w fun e w' => ∃ v, e = .returned v ∧ PlV w' v s.size (2 ^ i) ∧ Below w.heap.size w w' := by
  have HN := hide (fun y => none_any s cf ef hs y)
  have hF := ((Below.refl w.heap.size w).alloc (Nat.le_refl _) (.cells #[.string s, .int .i64 cf, .int .i64 ef, .bool false] 34))
  go_enter Tryd.func66, Tryd.ntmps66
  go_wp2_with fail
  refine (HN.out _).mono ?_
  rintro e w1 ⟨g, rfl, hrow, hg, hb⟩
  have HB := hide (hF.trans (hb.mono hF.size))
  have hcl := hrow.cell i hi
  have hfr := hrow.frozen
  have hgw : w.heap.size ≤ g := by have := hF.size; omega
  have HR := hide hrow
  clear hF hb hg hrow
  have hlt : i < s.size + 1 := by omega
  go_wp2_with fail
  go_ret
  refine ⟨_, rfl, ⟨g, rfl, (HR.out.set i true hi).congr fun j hj => ?_⟩, HB.out.setCell (by simpa using hgw) _⟩
  rw [Nat.testBit_two_pow]
  by_cases h : j = i
  · simp [h]
  · simp [h, show ¬ i = j from fun e => h e.symm]
end

section
variable (n : Nat) (hn : n ≤ 140737488355328)
include hn

set_option maxHeartbeats 1000000 in
theorem some_any (f : Nat) (hf : Fits n f) (v : Value) (w : World) (hv : PlV w v n f) : Calls Tryd.prog 91 #[v] w fun e w' => e = .returned (.bool (decide (f ≠ 0))) ∧ Below w.heap.size w w' := by
  obtain ⟨g, rfl, hrow⟩ := hv
  have HR := hide hrow
  have HF := hide hf
  clear hrow hf
  go_enter Tryd.func91, Tryd.ntmps91
  go_wp2_with fail
  go_loopw [3] (fun kv wr => ∃ k : Nat, kv = .int .i64 k ∧ k ≤ n + 1 ∧ (∀ j, j < k → f.testBit j = false) ∧ Below w.heap.size w wr) (fun kv _ => n + 1 - (intOf kv).toNat)
  case atStart => exact ⟨0, rfl, by omega, fun j h => by omega, Below.refl _ _⟩
  case round =>
    obtain ⟨k, rfl, hk, hz, hbel⟩ := hrel
    by_cases hlt : k < n + 1
    · have g1 : decide ((k : Int) < (n : Int) + 1) = true := decide_eq_true (by omega)
      have cl := (HR.out.next hbel).cell k (by omega)
      have HZ := hide hz
      have HB := hide hbel
      clear hz hbel
      cases hb : f.testBit k with
      | true =>
        rw [hb] at cl
        have hne : decide (f ≠ 0) = true := decide_eq_true (fun e => by rw [e] at hb; simp at hb)
        have HNE := hide hne
        clear hb hne
        go_wp2_with fail
        go_ret
        exact ⟨by rw [HNE.out]; rfl, HB.out⟩
      | false =>
        rw [hb] at cl
        have HBB := hide hb
        clear hb
        go_wp2_with fail
        go_roundw
        case rel => exact ⟨k + 1, by go_num, by omega, fun j hj => by
          by_cases h : j = k
          · rw [h]; exact HBB.out
          · exact HZ.out j (by omega), HB.out⟩
        case measure => simp [intOf]; omega
    · have g1 : decide ((k : Int) < (n : Int) + 1) = false := decide_eq_false (by omega)
      have hne : decide (f ≠ 0) = false := decide_eq_false (fun h => h (Nat.eq_of_testBit_eq fun j => by
        rw [Nat.zero_testBit]
        by_cases hj : j < k
        · exact hz j hj
        · cases hb : f.testBit j with
          | false => rfl
          | true => have := HF.out j hb; omega))
      have HNE := hide hne
      have HB := hide hbel
      clear hne hz hbel
      go_wp2_with fail
      go_ret
      exact ⟨by rw [HNE.out]; rfl, HB.out⟩

set_option maxHeartbeats 1000000 in
theorem both_any (a b : Nat) (v u : Value) (w : World) (hv : PlV w v n a) (hu : PlV w u n b) : Calls Tryd.prog 92 #[v, u] w fun e w' => ∃ t, e = .returned t ∧ PlV w' t n (a ||| b) ∧ Below w.heap.size w w' := by
  obtain ⟨g, rfl, hra⟩ := hv
  obtain ⟨h, rfl, hrb⟩ := hu
  have hmk := run_bools n hn w
  go_enter Tryd.func92, Tryd.ntmps92
  go_wp2_with fail
  clear hmk
  have hnew := BRow.new w n
  have hbel := (Below.refl w.heap.size w).alloc (Nat.le_refl _) (.cells (madeCells #[.bool false] (n + 1)) 4)
  have hA := hide (And.intro hra hrb)
  clear hra hrb
  generalize (w.alloc (.cells (madeCells #[.bool false] (n + 1)) 4)) = W at *
  go_loopw [6] (fun kv wr => ∃ k : Nat, kv = .int .i64 k ∧ k ≤ n + 1 ∧ BRow wr w.heap.size n (fun j => if j < k then (a ||| b).testBit j else false) ∧ Below w.heap.size w wr) (fun kv _ => n + 1 - (intOf kv).toNat)
  case atStart => exact ⟨0, rfl, by omega, hnew.congr fun j _ => by simp, hbel⟩
  case round =>
    clear hnew hbel
    obtain ⟨k, rfl, hk, hrow, hbel⟩ := hrel
    by_cases hlt : k < n + 1
    · have g1 : decide ((k : Int) < (n : Int) + 1) = true := decide_eq_true (by omega)
      have ca := (hA.out.1.below hbel hA.out.1.lt).cell k (by omega)
      have cb := (hA.out.2.below hbel hA.out.2.lt).cell k (by omega)
      have cc := hrow.cell k (by omega)
      have cf := hrow.frozen
      have H := hide (And.intro hrow hbel)
      clear hrow hbel
      cases hak : a.testBit k <;> cases hbk : b.testBit k <;>
      (rw [hak] at ca
       rw [hbk] at cb
       have HK := hide (And.intro hak hbk)
       clear hak hbk
       go_wp2_with fail
       go_roundw
       case rel =>
         refine ⟨k + 1, by go_num, by omega, (H.out.1.set k _ (by omega)).congr fun j hj => ?_, H.out.2.setCell (by simp) _⟩
         by_cases h : j = k
         · subst h
           rw [if_pos rfl, if_pos (by omega), Nat.testBit_or, HK.out.1, HK.out.2]
           first | rfl | simp
         · rw [if_neg h]
           by_cases h2 : j < k
           · rw [if_pos h2, if_pos (by omega)]
           · rw [if_neg h2, if_neg (by omega)]
       case measure => simp [intOf]; omega)
    · have g1 : decide ((k : Int) < (n : Int) + 1) = false := decide_eq_false (by omega)
      have H := hide (And.intro hrow hbel)
      clear hrow hbel
      go_wp2_with fail
      go_ret
      exact ⟨_, rfl, ⟨_, rfl, H.out.1.congr fun j hj => by rw [if_pos (by omega)]⟩, H.out.2⟩

set_option maxHeartbeats 1000000 in
theorem without_any (a b : Nat) (v u : Value) (w : World) (hv : PlV w v n a) (hu : PlV w u n b) : Calls Tryd.prog 106 #[v, u] w fun e w' => ∃ t, e = .returned t ∧ PlV w' t n (a ^^^ (a &&& b)) ∧ Below w.heap.size w w' := by
  obtain ⟨g, rfl, hra⟩ := hv
  obtain ⟨h, rfl, hrb⟩ := hu
  have hmk := run_bools n hn w
  go_enter Tryd.func106, Tryd.ntmps106
  go_wp2_with fail
  clear hmk
  have hnew := BRow.new w n
  have hbel := (Below.refl w.heap.size w).alloc (Nat.le_refl _) (.cells (madeCells #[.bool false] (n + 1)) 4)
  have hA := hide (And.intro hra hrb)
  clear hra hrb
  generalize (w.alloc (.cells (madeCells #[.bool false] (n + 1)) 4)) = W at *
  go_loopw [6] (fun kv wr => ∃ k : Nat, kv = .int .i64 k ∧ k ≤ n + 1 ∧ BRow wr w.heap.size n (fun j => if j < k then (a ^^^ (a &&& b)).testBit j else false) ∧ Below w.heap.size w wr) (fun kv _ => n + 1 - (intOf kv).toNat)
  case atStart => exact ⟨0, rfl, by omega, hnew.congr fun j _ => by simp, hbel⟩
  case round =>
    clear hnew hbel
    obtain ⟨k, rfl, hk, hrow, hbel⟩ := hrel
    by_cases hlt : k < n + 1
    · have g1 : decide ((k : Int) < (n : Int) + 1) = true := decide_eq_true (by omega)
      have ca := (hA.out.1.below hbel hA.out.1.lt).cell k (by omega)
      have cb := (hA.out.2.below hbel hA.out.2.lt).cell k (by omega)
      have cc := hrow.cell k (by omega)
      have cf := hrow.frozen
      have H := hide (And.intro hrow hbel)
      clear hrow hbel
      cases hak : a.testBit k <;> cases hbk : b.testBit k <;>
      (rw [hak] at ca
       rw [hbk] at cb
       have HK := hide (And.intro hak hbk)
       clear hak hbk
       go_wp2_with fail
       go_roundw
       case rel =>
         refine ⟨k + 1, by go_num, by omega, (H.out.1.set k _ (by omega)).congr fun j hj => ?_, H.out.2.setCell (by simp) _⟩
         by_cases h : j = k
         · subst h
           rw [if_pos rfl, if_pos (by omega), Nat.testBit_xor, Nat.testBit_and, HK.out.1, HK.out.2]
           first | rfl | simp
         · rw [if_neg h]
           by_cases h2 : j < k
           · rw [if_pos h2, if_pos (by omega)]
           · rw [if_neg h2, if_neg (by omega)]
       case measure => simp [intOf]; omega)
    · have g1 : decide ((k : Int) < (n : Int) + 1) = false := decide_eq_false (by omega)
      have H := hide (And.intro hrow hbel)
      clear hrow hbel
      go_wp2_with fail
      go_ret
      exact ⟨_, rfl, ⟨_, rfl, H.out.1.congr fun j hj => by rw [if_pos (by omega)]⟩, H.out.2⟩
end
end Go.Proofs.YtgpmiflfgpnhaaaDoor
