/- trawllaw16.lives. -/
import Derived.Test.YtbiamlinoldnlaaDoorText
set_option linter.unusedSimpArgs false
set_option linter.unusedVariables false
set_option linter.unnecessarySimpa false
namespace Go.Proofs.YtbiamlinoldnlaaDoor
open Go.RowKit

theorem Calls_fresh {f : FuncId} {args : Array Value} {t t' : T} {w : World} (h : Calls Tryd.prog f args w (Fresh t w)) (e : t = t') : Calls Tryd.prog f args w (Fresh t' w) := e ▸ h

theorem T.texts_a : ∃ a b c d, T.texts ⟨#[97]⟩ = [.mk ⟨2, a, b, c, d, 0, 0, 0, false⟩ []] := ⟨_, _, _, _, rfl⟩

set_option maxRecDepth 100000 in
set_option maxHeartbeats 2000000 in
theorem lives_true (w : World) : Calls Tryd.prog 14 #[] w fun e w' => e = .returned (.bool true) ∧ Below w.heap.size w w' := by
  obtain ⟨a0, a1, a2, a3, ha⟩ := T.texts_a
  have H := hide ha
  clear ha
  go_enter Tryd.func14, Tryd.ntmps14
  go_wp2_with fail
  refine (Calls_fresh (t' := .mk ⟨2, a0, a1, a2, a3, 0, 0, 0, false⟩ []) (text_any ⟨#[97]⟩ w (by decide)) (by rw [H.out]; rfl)).mono ?_
  rintro e w1 ⟨B, c, bs, rfl, hown, hnd, hfr, hbel⟩
  have hz := hbel.size
  simp only [T.hd, T.subs, Hd.cells, List.length_nil]
  go_wp2_with fail
  refine (seq_any [.mk ⟨3, 0, 0, 0, 0, 0, 0, 0, false⟩ [], .mk ⟨2, a0, a1, a2, a3, 0, 0, 0, false⟩ []] (some ⟨w1.heap.size, 0, none⟩) 2 _ (by simp [TL.nodes, T.nodes])
    ⟨w1.heap.size, 0, none, 0, rfl, by simp, fun j u hu => ?_, trivial, _, _, B, c, rfl, by simp, fun j u hu => ?_, trivial, trivial⟩).mono ?_
  · rw [Addr.add_lit, Nat.zero_add, (Blk.new _ _ _).cell]
    match j with
    | 0 | 1 | 2 | 3 | 4 | 5 | 6 | 7 | 8 | 9 => exact hu
    | j + 10 => simp [Hd.cells, T.hd, T.subs] at hu
  · simp only [Addr.add_lit]
    rw [(Blk.new _ _ _).cell]
    match j with
    | 0 | 1 | 2 | 3 | 4 | 5 | 6 | 7 | 8 | 9 => exact hu
    | j + 10 => simp [Hd.cells, T.hd, T.subs] at hu
  rintro e w2 ⟨B2, c2, bs2, rfl, hown2, hnd2, hfr2, hbel2⟩
  have hz2 := hbel2.size
  simp only [World.size_alloc] at hz2
  have hb2 : Below w.heap.size w w2 := hbel.trans (((Below.refl _ _).alloc hz _).trans (hbel2.mono (by simp; omega)))
  have hin2 := hown2.in_ (ok := (· < w2.heap.size)) fun b hb => (hfr2 b hb).2
  have HT := hide (Calls_fresh (t' := .mk ⟨5, 0, 0, 0, 0, 0, 0, 0, false⟩ [.mk ⟨2, a0, a1, a2, a3, 0, 0, 0, false⟩ [], .mk ⟨4, 0, 0, 0, 0, 0, 0, 0, false⟩ []]) (Turn_any _ B2 c2 w2 (by simp [T.seq, TL.nodes, T.nodes]) hin2) (by simp [T.seq, T.turn, TL.turn_eq, Hd.turn]))
  clear hown2 hown hfr2 hfr hbel hbel2 hin2
  go_wp2_with fail
  refine HT.out.mono ?_
  rintro e w3 ⟨B3, c3, bs3, rfl, hown3, hnd3, hfr3, hbel3⟩
  have hz3 := hbel3.size
  have hb3 : Below w.heap.size w w3 := hb2.trans (hbel3.mono (by omega))
  simp only [T.hd, T.subs, Hd.cells, List.length_cons, List.length_nil, Nat.zero_add, Nat.reduceAdd]
  have hin3 := T.In_iff.1 (hown3.in_ (ok := (· < w3.heap.size)) fun b hb => (hfr3 b hb).2)
  simp only [T.subs] at hin3
  obtain ⟨b, o, B4, c4, rfl, hbk, hcs, hsub⟩ := TL.In.at_ (i := 0) hin3 rfl
  obtain ⟨b', o', B5, c5, e5, hbk', hcs', hsub'⟩ := TL.In.at_ (i := 1) hin3 rfl
  injection e5 with e5
  injection e5 with e5 e6
  subst e5; subst e6
  have S1 : Same (· < w3.heap.size) w3 (w3.alloc (.cells #[.int .i64 5, .int .u64 0, .int .u64 0, .int .u64 0, .int .u64 0, .slice (some ⟨b, o, none⟩) 2 c3, .int .i64 0, .int .i64 0, .int .i64 0, .bool false] 27)) := (Same.refl _ _).alloc (fun b hb => hb) _
  obtain ⟨n0, n1, n2, n3, n4, n5, n6, n7, n8, n9⟩ := (hcs.same S1 hbk).node
  obtain ⟨m0, m1, m2, m3, m4, m5, m6, m7, m8, m9⟩ := (hcs'.same S1 hbk').node
  have hbl := hide hb3
  simp only [Nat.zero_mul, Nat.add_zero, Nat.one_mul] at n0 m0
  clear hown3 hfr3 hbel3 hin3 hcs hcs' hsub hsub' S1 hb3 hb2 HT
  go_wp2_with fail
  go_ret
  exact ⟨rfl, hbl.out.alloc (by omega) _⟩
end Go.Proofs.YtbiamlinoldnlaaDoor
