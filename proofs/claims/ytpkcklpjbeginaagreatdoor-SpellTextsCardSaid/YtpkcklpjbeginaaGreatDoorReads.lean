/- Read: What a reading says: a node that reads is a tree that lies in the memory that is there.
ReadView: What a reading says of a View (a subject with its flags) and of an integer.
LaidSome: What a row's list of variables gives, wherever they stand on it: a sentinel is an error; the library's table lies as laid. -/
import Derived.Test.YtpkcklpjbeginaaGreatDoorGrow
import Derived.ChangeArms
import Derived.OpenShut
import Derived.SizedLaws
import Derived.ChangeShapes
import Derived.Test.YtpkcklpjbeginaaGreatDoorTz
import Derived.Test.YtpkcklpjbeginaaGreatDoorSent
import Derived.Stop.LaidErr
import Derived.Lib.LaidU8
set_option linter.unusedSimpArgs false
set_option linter.unusedVariables false
set_option linter.unnecessarySimpa false

/-! ## Read -/
namespace Go.Proofs.YtpkcklpjbeginaaGreatDoor

theorem Tryz.cellsNode : Tryz.prog.cellsOf 27 = 10 := by kernel_rfl
theorem Tryz.cellsSet : Tryz.prog.cellsOf 24 = 4 := by kernel_rfl
theorem Tryz.cellsSubs : Tryz.prog.cellsOf 25 = 1 := by kernel_rfl
theorem Tryz.cellsU64 : Tryz.prog.cellsOf 22 = 1 := by kernel_rfl
theorem Tryz.cellsInt : Tryz.prog.cellsOf 3 = 1 := by kernel_rfl
theorem Tryz.cellsBool : Tryz.prog.cellsOf 4 = 1 := by kernel_rfl

theorem ten {α : Type} {l : List α} (h : l.length = 10) : ∃ a b c d e f g i j k, l = [a, b, c, d, e, f, g, i, j, k] := by
 match l, h with
 | [a, b, c, d, e, f, g, i, j, k], _ => exact ⟨a, b, c, d, e, f, g, i, j, k, rfl⟩

theorem collect {p : Nat → T → Prop} : ∀ n, (∀ i, i < n → ∃ t, p i t) → ∃ l : List T, l.length = n ∧ ∀ i t, l[i]? = some t → p i t
 | 0, _ => ⟨[], rfl, by simp⟩
 | n + 1, h => by
  obtain ⟨l, h1, h2⟩ := collect n fun i hi => h i (by omega)
  obtain ⟨t, ht⟩ := h n (by omega)
  refine ⟨l ++ [t], by simp [h1], fun i s hs => ?_⟩
  by_cases hi : i < l.length
  ·rw [List.getElem?_append_left hi] at hs
   exact h2 i s hs
  ·rw [List.getElem?_append_right (by omega)] at hs
   have h0 : i - l.length = 0 := by
    have := (List.getElem?_eq_some_iff.1 hs).1
    simp at this
    omega
   rw [h0] at hs
   have : t = s := by simpa using hs
   subst this
   rw [show i = n by omega]
   exact ht

theorem TL.wf_of : ∀ {l : List T}, (∀ t, t ∈ l → t.wf) → TL.wf l
 | [], _ => trivial
 | t :: l, h => ⟨h t (by simp), TL.wf_of fun s hs => h s (by simp [hs])⟩

theorem cells?_spec {w : World} {base : Nat} {a : Addr} {n : Nat} {cs : List Value} (h : w.cells? base a n = some cs) : cs.length = n ∧ ∀ j, j < n → w.cell? (a.add j) = cs[j]? := by
 unfold World.cells? at h
 split at h
 ·exact ⟨by simpa using mapM_some_length h, fun j hj => mapM_some_get h j j (by simp [hj])⟩
 ·cases h

theorem cell?_spot {w : World} {a : Addr} {v : Value} (h : w.cell? a = some v) : a.spot = none ∧ a.block < w.heap.size := by
 refine ⟨?_, World.block_lt_of_cell? w a h⟩
 unfold World.cell? at h
 split at h
 ·split at h
  ·cases h
  ·rename_i hs
   simpa using hs
 ·cases h

section
variable {H : Type} {enc : TypeId × Value → H} {w : World} {base : Nat} {spare : Nat → Bool} {held : Bool}

theorem trod_u64s {fuel : Nat} {a b c d : Value} {x : DataW H × List MemPlace} (h : DataW.trod enc Tryz.prog w base spare held fuel 24 [a, b, c, d] = some x) :
  ∃ p q r s, a = .int .u64 p ∧ b = .int .u64 q ∧ c = .int .u64 r ∧ d = .int .u64 s ∧ IsU64 p ∧ IsU64 q ∧ IsU64 r ∧ IsU64 s := by
 obtain ⟨xs, m, _, _, _, hl, hel⟩ := DataW.trod_array Tryz.underlying24 h
 have h0 := hel 0 (by omega)
 have h1 := hel 1 (by omega)
 have h2 := hel 2 (by omega)
 have h3 := hel 3 (by omega)
 rw [List.getElem?_eq_getElem (by omega)] at h0 h1 h2 h3
 simp only [Tryz.cellsU64, Nat.zero_mul, Nat.one_mul, Nat.mul_one, List.drop_zero, List.drop_succ_cons, List.take_succ_cons, List.take_zero] at h0 h1 h2 h3
 obtain ⟨p, e0, _, w0⟩ := DataW.trod_int Tryz.underlying22 h0
 obtain ⟨q, e1, _, w1⟩ := DataW.trod_int Tryz.underlying22 h1
 obtain ⟨r, e2, _, w2⟩ := DataW.trod_int Tryz.underlying22 h2
 obtain ⟨s, e3, _, w3⟩ := DataW.trod_int Tryz.underlying22 h3
 simp only [List.cons.injEq, and_true] at e0 e1 e2 e3
 exact ⟨p, q, r, s, e0, e1, e2, e3, bounds_u64 w0, bounds_u64 w1, bounds_u64 w2, bounds_u64 w3⟩

theorem trod_node : ∀ (fuel : Nat) (cs : List Value) (x : DataW H × List MemPlace), DataW.trod enc Tryz.prog w base spare held fuel 27 cs = some x →
  ∃ (t : T) (A : Option Addr) (c : Nat), cs = t.hd.cells (.slice A t.subs.length c) ∧ T.In w (· < w.heap.size) t A ∧ t.wf := by
 intro fuel
 induction fuel using Nat.strongRecOn with
 | ind fuel ih =>
  intro cs x h
  obtain ⟨xs, m, rfl, _, hlen, hl, hel⟩ := DataW.trod_struct Tryz.underlying27 h
  rw [Tryz.cellsNode] at hlen
  obtain ⟨v0, v1, v2, v3, v4, v5, v6, v7, v8, v9, rfl⟩ := ten hlen
  have hl' : xs.length = 7 := hl
  have f0 := hel 0 _ rfl
  have f1 := hel 1 _ rfl
  have f2 := hel 2 _ rfl
  have f3 := hel 3 _ rfl
  have f4 := hel 4 _ rfl
  have f5 := hel 5 _ rfl
  have f6 := hel 6 _ rfl
  rw [List.getElem?_eq_getElem (by omega)] at f0 f1 f2 f3 f4 f5 f6
  simp only [List.getElem_toArray, List.getElem_cons_zero, List.getElem_cons_succ, Tryz.cellsInt, Tryz.cellsSet, Tryz.cellsSubs, Tryz.cellsBool, List.drop_zero, List.drop_succ_cons, List.take_succ_cons, List.take_zero] at f0 f1 f2 f3 f4 f5 f6
  obtain ⟨kind, e0, _, w0⟩ := DataW.trod_int Tryz.underlying3 f0
  obtain ⟨s0, s1, s2, s3, e1, e2, e3, e4, u0, u1, u2, u3⟩ := trod_u64s f1
  obtain ⟨num, e6, _, w6⟩ := DataW.trod_int Tryz.underlying3 f3
  obtain ⟨mn, e7, _, w7⟩ := DataW.trod_int Tryz.underlying3 f4
  obtain ⟨mx, e8, _, w8⟩ := DataW.trod_int Tryz.underlying3 f5
  obtain ⟨bare, e9, _⟩ := DataW.trod_bool Tryz.underlying4 f6
  simp only [List.cons.injEq, and_true] at e0 e6 e7 e8 e9
  subst e0 e1 e2 e3 e4 e6 e7 e8 e9
  have hw : Hd.wf ⟨kind, s0, s1, s2, s3, num, mn, mx, bare⟩ := ⟨bounds_i64 w0, u0, u1, u2, u3, bounds_i64 w6, bounds_i64 w7, bounds_i64 w8⟩
  rcases DataW.trod_slice Tryz.underlying25 f2 with ⟨e5, _⟩ | ⟨a, len, cap, elems, rest, n, hn, e5, _, _, hlc, hcap, hel, helems, _⟩
  ·simp only [List.cons.injEq, and_true] at e5
   subst e5
   exact ⟨.mk ⟨kind, s0, s1, s2, s3, num, mn, mx, bare⟩ [], none, 0, rfl, trivial, hw, by simp, trivial⟩
  ·simp only [List.cons.injEq, and_true] at e5
   subst e5
   rw [Tryz.cellsNode] at helems
   have hlen9 : len ≤ 9223372036854775807 := by simp only [maxLen] at hcap; omega
   have hall : ∀ i, i < len → ∃ (t : T) (A : Option Addr) (c : Nat), CellsAt w (a.add (i * 10)) (t.hd.cells (.slice A t.subs.length c)) ∧ T.In w (· < w.heap.size) t A ∧ t.wf := by
    intro i hi
    have hk := helems i hi
    rw [List.getElem?_eq_getElem (by omega)] at hk
    obtain ⟨cs', k1, k2⟩ := Option.bind_eq_some_iff.1 hk
    obtain ⟨t, A, c, e, k3, k4⟩ := ih n (by omega) cs' _ k2
    subst e
    obtain ⟨_, k5⟩ := cells?_spec k1
    refine ⟨t, A, c, fun j u hu => ?_, k3, k4⟩
    rw [k5 j (by have := (List.getElem?_eq_some_iff.1 hu).1; simpa [Hd.cells_length] using this)]
    exact hu
   clear helems f0 f1 f2 f3 f4 f5 f6 hel h ih
   rcases Nat.eq_zero_or_pos len with hz | hz
   ·subst hz
    exact ⟨.mk ⟨kind, s0, s1, s2, s3, num, mn, mx, bare⟩ [], some a, cap, rfl, trivial, hw, by simp, trivial⟩
   ·obtain ⟨t0, A0, c0, g0, _⟩ := hall 0 hz
    have := cell?_spot (g0 0 _ rfl)
    have hsp : a.spot = none ∧ a.block < w.heap.size := by
     simpa [Addr.add] using this
    obtain ⟨b, o, sp⟩ := a
    have hs : sp = none := hsp.1
    subst hs
    obtain ⟨l, hl1, hl2, hl3⟩ : ∃ l : List T, l.length = len ∧ (∀ i t, l[i]? = some t → ∃ B c, CellsAt w ⟨b, o + i * 10, none⟩ (t.hd.cells (.slice B t.subs.length c)) ∧ T.In w (· < w.heap.size) t B) ∧ TL.wf l := by
     obtain ⟨l, k1, k2⟩ := collect len hall
     refine ⟨l, k1, fun i t ht => ?_, TL.wf_of fun t ht => ?_⟩
     ·obtain ⟨A, c, g1, g2, _⟩ := k2 i t ht
      rw [Addr.add_lit] at g1
      exact ⟨A, c, g1, g2⟩
     ·obtain ⟨i, hi, e⟩ := List.getElem_of_mem ht
      obtain ⟨A, c, _, _, g3⟩ := k2 i t (by rw [List.getElem?_eq_getElem hi, e])
      exact g3
    subst hl1
    exact ⟨.mk ⟨kind, s0, s1, s2, s3, num, mn, mx, bare⟩ l, some ⟨b, o, none⟩, cap, rfl, TL.In.mk_ hsp.2 hl2, hw, hlen9, hl3⟩
end
end Go.Proofs.YtpkcklpjbeginaaGreatDoor

/-! ## ReadView -/
namespace Go.Proofs.YtpkcklpjbeginaaGreatDoor
open Go.ChangeShapes

theorem three {α : Type} {l : List α} (h : l.length = 3) : ∃ a b c, l = [a, b, c] := by
 match l, h with
 | [a, b, c], _ => exact ⟨a, b, c, rfl⟩

section
variable {H : Type} {enc : TypeId × Value → H} {w : World} {base : Nat} {spare : Nat → Bool} {held : Bool}

end
end Go.Proofs.YtpkcklpjbeginaaGreatDoor

/-! ## LaidSome -/
namespace Go.Proofs.YtpkcklpjbeginaaGreatDoor
open Go.RowKit

theorem deb_len : Lib.deBruijn64tab.length = 64 := by decide

theorem tab_of_met {l : List (String × DataW Unit)} {W : World} (h : laidMet Tryz.prog l W)
  (hm : ("math/bits.deBruijn64tab", (Lib.tabData .u8 (Lib.deBruijn64tab.map fun n : Nat => (n : Int)) : DataW Unit)) ∈ l) : Tab W := by
 obtain ⟨g, t, cs, fuel, p, h1, h2, h3, h4⟩ := Lib.laidMet.reads h hm
 obtain rfl : g = 23 := Option.some.inj (h1.symm.trans (show Tryz.prog.globalNamed "math/bits.deBruijn64tab" = some 23 by kernel_rfl))
 obtain rfl : t = 183 := Option.some.inj (h2.symm.trans (show (Tryz.prog.globals[23]?).map (·.type) = some 183 by kernel_rfl))
 have hc := Lib.cells_of_tab Tryz.underlying183 Tryz.underlying5 (by kernel_rfl) (by kernel_rfl) h4
 intro j hj
 have hcell := World.var?_cell h1 h3 j
 rw [hcell, ← Array.getElem?_toList, hc]
 have hl : j < Lib.deBruijn64tab.length := by rw [deb_len]; exact hj
 simp [hl]
end Go.Proofs.YtpkcklpjbeginaaGreatDoor
