/- reach.asked, Ends, Takes. -/
import Derived.Test.YtgpmiflfgpnhaaaDoorStepAll
import Derived.Test.YtgpmiflfgpnhaaaDoorCheck
import Derived.Stop.IfaceNil
set_option linter.unusedSimpArgs false
set_option linter.unusedVariables false
namespace Go.Proofs.YtgpmiflfgpnhaaaDoor
open Go.RowKit

/-- The error of a call with these places. -/
def asked (t : T) (x : Sc) (ps : List Int) : Option Nat :=
  match t.check with
  | some g => some g
  | none => if 63 < x.len then some 11 else if ps.any (fun p => decide (p < 0) || decide ((x.len : Int) < p)) then some 14 else none

theorem asked_none {t : T} {x : Sc} {ps : List Int} : asked t x ps = none ↔ t.check = none ∧ x.len ≤ 63 ∧ ∀ p ∈ ps, 0 ≤ p ∧ p ≤ x.len := by
  unfold asked
  cases t.check with
  | some g => simp
  | none =>
    simp only [true_and]
    by_cases h : 63 < x.len
    · simp [h]; omega
    · rw [if_neg h]
      by_cases h2 : ps.any (fun p => decide (p < 0) || decide ((x.len : Int) < p)) = true
      · rw [if_pos h2]
        simp only [List.any_eq_true, Bool.or_eq_true, decide_eq_true_eq] at h2
        obtain ⟨p, hp, h3⟩ := h2
        simp only [reduceCtorEq, false_iff, not_and]
        intro _ h4
        have := h4 p hp
        omega
      · rw [if_neg h2]
        simp only [List.any_eq_true, Bool.or_eq_true, decide_eq_true_eq, not_exists, not_and, not_or] at h2
        simp only [true_iff]
        exact ⟨by omega, fun p hp => by have := h2 p hp; omega⟩

theorem asked_some {t : T} {x : Sc} {ps : List Int} {g : Nat} (h : t.check = some g) : asked t x ps = some g := by
  unfold asked
  rw [h]
theorem asked_long {t : T} {x : Sc} {ps : List Int} (h : t.check = none) (hl : 63 < x.len) : asked t x ps = some 11 := by
  unfold asked
  rw [h]
  exact if_pos hl
theorem asked_bad {t : T} {x : Sc} {ps : List Int} (h : t.check = none) (hl : ¬ 63 < x.len) {p : Int} (hp : p ∈ ps) (hb : p < 0 ∨ (x.len : Int) < p) : asked t x ps = some 14 := by
  unfold asked
  rw [h]
  show (if 63 < x.len then _ else _) = _
  rw [if_neg hl, if_pos]
  rw [List.any_eq_true]
  exact ⟨p, hp, by simpa using hb⟩

set_option maxRecDepth 100000 in
set_option maxHeartbeats 2000000 in
theorem asked_any {x : Sc} {b m : Nat} (t : T) (A : Option Addr) (c : Nat) (ps : List Int) (g cap : Nat) (w : World) (a : Nat → Addr) (hN : t.nodes ≤ 1000000) (hin : T.In w (· < w.heap.size) t A) (hscn : Scn w b m x) (hE : Env w a)
    (hps : Blk w g 3 (ps.map fun p => Value.int .i64 p).toArray) (h64 : ∀ p ∈ ps, IsI64 p) (hl : ps.length ≤ 1000) :
    Calls Tryd.prog 56 #[.agg (t.hd.cells (.slice A t.subs.length c)).toArray, .pointer (some ⟨b, 0, none⟩), .slice (some ⟨g, 0, none⟩) ps.length cap] w fun e w' => e = .returned (errOf a (asked t x ps)) ∧ Below w.heap.size w w' := by
  have hne := fun y ad => run_neq_iface_nil (P := Tryd.prog) (w := y) 37 (by kernel_rfl) 160 (.pointer (some ad))
  have hnn := fun y => run_neq_nil_nil_at (P := Tryd.prog) (w := y) 37 (by kernel_rfl)
  have hA := hide (And.intro (@asked_some t x ps) (And.intro (@asked_long t x ps) (And.intro (@asked_bad t x ps) (@asked_none t x ps))))
  have HC := hide (fun y (hy : Below w.heap.size w y) => check_any t A c y a hN (hin.same (same_of_below hy) (fun z hz => Nat.lt_of_lt_of_le hz hy.size)) ((hE.below hy).sent.mono (by decide)))
  have HH := hide (And.intro hscn (And.intro hE (And.intro hps h64)))
  have hfit := hscn.fits
  clear hin hscn hE hps h64
  generalize asked t x ps = res at *
  generalize t.check = ck at *
  obtain ⟨h, l⟩ := t
  obtain ⟨kind, s0, s1, s2, s3, num, mn, mx, bare⟩ := h
  simp only [T.hd, T.subs, Hd.cells] at HC ⊢
  clear hN
  go_enter Tryd.func56, Tryd.ntmps56
  go_wp2_with fail
  refine (HC.out _ ((Below.refl _ _).alloc (Nat.le_refl _) _)).mono ?_
  rintro e w1 ⟨rfl, hb⟩
  have hbel := ((Below.refl w.heap.size w).alloc (Nat.le_refl _) _).trans (hb.mono (by simp))
  clear hb HC
  have HB := hide hbel
  cases ck with
  | some q =>
    have hr := hA.out.1 rfl
    have HR := hide hr
    clear hr hbel
    simp only [errOf, errV]
    go_wp2_with fail
    go_ret
    exact ⟨by rw [HR.out]; rfl, HB.out⟩
  | none =>
    have hS := hide (HH.out.1.below (w' := w1) hbel)
    have hrow := (HH.out.2.2.1.below hbel HH.out.2.2.1.lt).cell
    have hE := (HH.out.2.1.below hbel).sent
    have v1 := hE 11 (by decide)
    have v2 := hE 14 (by decide)
    simp only [errV] at v1 v2
    have HLen := hide (slen_any hS.out)
    clear hE hbel
    simp only [errOf]
    by_cases hlong : 63 < x.len
    · have g1 : decide ((63 : Int) < (x.len : Int)) = true := decide_eq_true (by omega)
      have hr := hA.out.2.1 rfl hlong
      have HR := hide hr
      clear hr v2
      go_wp2_with fail
      refine HLen.out.mono ?_
      rintro e w2 ⟨rfl, rfl⟩
      go_wp2_with fail
      go_ret
      exact ⟨by rw [HR.out]; rfl, HB.out⟩
    · have g1 : decide ((63 : Int) < (x.len : Int)) = false := decide_eq_false (by omega)
      clear v1
      go_wp2_with fail
      refine HLen.out.mono ?_
      rintro e w2 ⟨rfl, rfl⟩
      go_wp2_with fail
      have HV := hide v2
      have HRow := hide hrow
      clear v2 hrow
      go_loopw [21] (fun kv wr => ∃ k : Nat, kv = .int .i64 k ∧ k ≤ ps.length ∧ (∀ p ∈ ps.take k, 0 ≤ p ∧ p ≤ x.len) ∧ wr = w1) (fun kv _ => ps.length - (intOf kv).toNat)
      case atStart => exact ⟨0, rfl, Nat.zero_le _, by simp, rfl⟩
      case round =>
        obtain ⟨k, rfl, hk, hall, rfl⟩ := hrel
        by_cases hlt : k < ps.length
        · have g2 : decide ((k : Int) < (ps.length : Int)) = true := decide_eq_true (by omega)
          have hck := HRow.out k
          have hmem := List.getElem_mem hlt
          have h64 := HH.out.2.2.2 _ hmem
          have htk : ps.take (k + 1) = ps.take k ++ [ps[k]] := by rw [List.take_add_one, List.getElem?_eq_getElem hlt]; rfl
          rw [List.getElem?_toArray, List.getElem?_map, List.getElem?_eq_getElem hlt] at hck
          simp only [Option.map_some] at hck
          generalize ps[k] = p at *
          have HT := hide (And.intro htk (And.intro hall hmem))
          clear htk hall hmem
          obtain ⟨h64a, h64b⟩ := h64
          by_cases hneg : p < 0
          · have g3 : decide (p < 0) = true := decide_eq_true hneg
            have hr := hA.out.2.2.1 (by first | rfl | trivial) hlong HT.out.2.2 (.inl hneg)
            have HR := hide hr
            clear hr
            have v2 := HV.out
            go_wp2_with fail
            go_ret
            exact ⟨by rw [HR.out]; rfl, HB.out⟩
          · have g3 : decide (p < 0) = false := decide_eq_false hneg
            by_cases hbig : (x.len : Int) < p
            · have g4 : decide ((x.len : Int) < p) = true := decide_eq_true hbig
              have hr := hA.out.2.2.1 (by first | rfl | trivial) hlong HT.out.2.2 (.inr hbig)
              have HR := hide hr
              clear hr
              have v2 := HV.out
              go_wp2_with fail
              refine HLen.out.mono ?_
              rintro e w2 ⟨rfl, rfl⟩
              go_wp2_with fail
              go_ret
              exact ⟨by rw [HR.out]; rfl, HB.out⟩
            · have g4 : decide ((x.len : Int) < p) = false := decide_eq_false hbig
              go_wp2_with fail
              refine HLen.out.mono ?_
              rintro e w2 ⟨rfl, rfl⟩
              go_wp2_with fail
              go_roundw
              case rel =>
                refine ⟨k + 1, by go_num, hlt, ?_, trivial⟩
                rw [HT.out.1]
                intro q hq
                rcases List.mem_append.1 hq with hq | hq
                · exact HT.out.2.1 q hq
                · obtain rfl : q = p := by simpa using hq
                  omega
              case measure => simp [intOf]; omega
        · have hr : res = none := hA.out.2.2.2.2 ⟨by first | rfl | trivial, by omega, fun p hp => hall p (by rw [List.take_of_length_le (by omega)]; exact hp)⟩
          have HR := hide hr
          clear hr hall
          have g2 : decide ((k : Int) < (ps.length : Int)) = false := decide_eq_false (by omega)
          go_wp2_with fail
          go_ret
          exact ⟨by rw [HR.out]; rfl, HB.out⟩
end Go.Proofs.YtgpmiflfgpnhaaaDoor
