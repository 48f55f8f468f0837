/- trawlref17.leaves: how many bytes a tree has. -/
import Derived.Test.YtbbhobojghmkpaaDoorDepths
import Derived.Deep.DeepCutAuto
set_option linter.unusedSimpArgs false
set_option linter.unusedVariables false
namespace Go.Proofs.YtbbhobojghmkpaaDoor
open Go.RowKit

mutual
def T.leaves : T → Nat
  | .mk h l => (if h.kind = 2 then 1 else 0) + TL.leaves l
def TL.leaves : List T → Nat
  | [] => 0
  | t :: l => t.leaves + TL.leaves l
end
mutual
theorem T.leaves_le : ∀ t : T, t.leaves ≤ t.nodes
  | .mk h l => by have := TL.leaves_le l; simp only [T.leaves, T.nodes]; split <;> omega
theorem TL.leaves_le : ∀ l : List T, TL.leaves l ≤ TL.nodes l
  | [] => Nat.le_refl _
  | t :: l => by have := T.leaves_le t; have := TL.leaves_le l; simp only [TL.leaves, TL.nodes]; omega
end
theorem TL.leaves_snoc : ∀ (l : List T) (t : T), TL.leaves (l ++ [t]) = TL.leaves l + t.leaves
  | [], t => by simp [TL.leaves]
  | s :: l, t => by simp only [List.cons_append, TL.leaves]; rw [TL.leaves_snoc l t]; omega
theorem TL.leaves_take : ∀ (l : List T) (k : Nat), TL.leaves (l.take k) ≤ TL.leaves l
  | l, 0 => by simp [TL.leaves]
  | [], k + 1 => by simp
  | s :: l, k + 1 => by simp only [List.take_succ_cons, TL.leaves]; have := TL.leaves_take l k; omega

set_option maxRecDepth 100000 in
set_option maxHeartbeats 1000000 in
theorem refLeaves_any (N : Nat) : ∀ (t : T) (A : Option Addr) (c : Nat) (w : World), t.nodes ≤ N → N ≤ 1000000 → T.In w (· < w.heap.size) t A →
    Calls Tryd.prog 94 #[.agg (t.hd.cells (.slice A t.subs.length c)).toArray] w fun e w' => e = .returned (.int .i64 t.leaves) ∧ Below w.heap.size w w' := by
  induction N with
  | zero => intro t A c w h; have := t.nodes_pos; omega
  | succ N ih =>
    intro t A c w hN hM hin
    have hle := T.leaves_le t
    obtain ⟨h, l⟩ := t
    obtain ⟨kind, s0, s1, s2, s3, num, mn, mx, bare⟩ := h
    have hlen := T.length_lt (T.mk ⟨kind, s0, s1, s2, s3, num, mn, mx, bare⟩ l)
    simp only [T.nodes] at hN
    simp only [T.nodes, T.hd, T.subs, Hd.cells] at hlen hle ⊢
    obtain ⟨res, hres⟩ : ∃ r, r = (T.mk ⟨kind, s0, s1, s2, s3, num, mn, mx, bare⟩ l).leaves := ⟨_, rfl⟩
    obtain ⟨n0, hn0⟩ : ∃ r : Nat, r = if kind = 2 then 1 else 0 := ⟨_, rfl⟩
    have hres2 : res = n0 + TL.leaves l := by rw [hres, hn0]; simp only [T.leaves]
    rw [← hres] at hle ⊢
    have HR := hide (And.intro hres2 hn0)
    have hn01 : n0 ≤ 1 := by rw [hn0]; split <;> omega
    clear hres hres2 hn0
    go_enter Tryd.func94, Tryd.ntmps94
    have hin0 := hide hin
    clear hin
    go_upto_region 2 with fail
    go_cut [3, 7] (fun z z7 wx => z = .int .i64 0 ∧ z7 = .bool (kind == 2) ∧ wx = w.alloc (.cells #[.int .i64 kind, .int .u64 s0, .int .u64 s1, .int .u64 s2, .int .u64 s3, .slice A l.length c, .int .i64 num, .int .i64 mn, .int .i64 mx, .bool bare] 27))
    case first =>
      go_wp2_with fail
      go_meet
      case rel => exact ⟨rfl, rfl, rfl⟩
    case rest =>
    obtain ⟨rfl, rfl, rfl⟩ := hcut
    have hk2 : (kind == 2) = true ∧ n0 = 1 ∨ (kind == 2) = false ∧ n0 = 0 := by
      rw [HR.out.2]
      by_cases h : kind = 2
      · exact .inl ⟨by simp [h], by simp [h]⟩
      · exact .inr ⟨by simp [h], by simp [h]⟩
    have HL := hide (fun (wr : World) (k : Nat) => (Blk.new w 27 #[.int .i64 kind, .int .u64 s0, .int .u64 s1, .int .u64 s2, .int .u64 s3, .slice A l.length c, .int .i64 num, .int .i64 mn, .int .i64 mx, .bool bare]))
    have hb0 := (Below.refl w.heap.size w).alloc (Nat.le_refl _) (.cells #[.int .i64 kind, .int .u64 s0, .int .u64 s1, .int .u64 s2, .int .u64 s3, .slice A l.length c, .int .i64 num, .int .i64 mn, .int .i64 mx, .bool bare] 27)
    have hbx := Blk.new w 27 #[.int .i64 kind, .int .u64 s0, .int .u64 s1, .int .u64 s2, .int .u64 s3, .slice A l.length c, .int .i64 num, .int .i64 mn, .int .i64 mx, .bool bare]
    generalize (w.alloc (.cells #[.int .i64 kind, .int .u64 s0, .int .u64 s1, .int .u64 s2, .int .u64 s3, .slice A l.length c, .int .i64 num, .int .i64 mn, .int .i64 mx, .bool bare] 27)) = W at *
    have HB := hide (And.intro hb0 hbx)
    clear hb0 hbx HL
    rcases hk2 with ⟨hk, hn⟩ | ⟨hk, hn⟩
    · rw [hk]
      subst hn
      go_wp2_with fail
      go_loopw [3, 4] (fun cv kv wr => ∃ (k n : Nat), kv = .int .i64 k ∧ cv = .int .i64 n ∧ k ≤ l.length ∧ n = 1 + TL.leaves (l.take k) ∧ Below w.heap.size w wr ∧ Blk wr w.heap.size 27 #[.int .i64 kind, .int .u64 s0, .int .u64 s1, .int .u64 s2, .int .u64 s3, .slice A l.length c, .int .i64 num, .int .i64 mn, .int .i64 mx, .bool bare]) (fun _ kv _ => l.length - (intOf kv).toNat)
      case atStart => exact ⟨0, _, rfl, by first | rfl | simp, by omega, by simp [TL.leaves], HB.out⟩
      case round =>
        obtain ⟨k, n, rfl, rfl, hk, hn, hbel, hbx⟩ := hrel
        have c0 := hbx.cell
        by_cases hlt : k < l.length
        · have g1 : decide ((k : Int) < (l.length : Int)) = true := by simp; omega
          have hs := List.getElem?_eq_getElem hlt
          have hmem := List.getElem_mem hlt
          have hln : n ≤ 1000000 := by have := TL.leaves_take l k; have := TL.leaves_le l; omega
          have hln2 : (l[k]).leaves ≤ 1000000 := by have := T.leaves_le l[k]; have := TL.nodes_mem hmem; omega
          obtain ⟨b, o, B, c', rfl, hbk, hcs, hsub⟩ := TL.In.at_ (T.In_iff.1 hin0.out) hs
          have hsn := TL.nodes_mem hmem
          have htk : l.take (k + 1) = l.take k ++ [l[k]] := by rw [List.take_add_one, hs]; rfl
          generalize l[k] = s at *
          obtain ⟨n0, n1, n2, n3, n4, n5, n6, n7, n8, n9⟩ := (hcs.same (same_of_below hbel) hbk).node
          have HX := hide (ih s B c' wr (by omega) (by omega) (hsub.same (ok' := (· < wr.heap.size)) (same_of_below hbel) (fun x hx => Nat.lt_of_lt_of_le hx hbel.size)))
          have HH := hide (And.intro hn (And.intro htk (And.intro hbel hbx)))
          clear hs hcs hn htk hbel hbx
          go_wp2_with fail
          refine HX.out.mono ?_
          rintro e w1 ⟨rfl, hb1⟩
          have HB1 := hide (And.intro (HH.out.2.2.1.trans (hb1.mono HH.out.2.2.1.size)) (HH.out.2.2.2.below hb1 HH.out.2.2.2.lt))
          clear hb1
          go_wp2_with fail
          go_roundw
          case rel => exact ⟨k + 1, n + s.leaves, by go_num, by go_num, hlt, by rw [HH.out.2.1, TL.leaves_snoc, HH.out.1]; omega, HB1.out⟩
          case measure => simp [intOf]; omega
        · have g1 : decide ((k : Int) < (l.length : Int)) = false := by simp; omega
          rw [List.take_of_length_le (by omega), ← HR.out.1] at hn
          have HH := hide (And.intro hn hbel)
          clear hn hbel hbx
          go_wp2_with fail
          go_ret
          exact ⟨by rw [← HH.out.1]; rfl, HH.out.2⟩
    · rw [hk]
      subst hn
      go_wp2_with fail
      go_loopw [3, 4] (fun cv kv wr => ∃ (k n : Nat), kv = .int .i64 k ∧ cv = .int .i64 n ∧ k ≤ l.length ∧ n = 0 + TL.leaves (l.take k) ∧ Below w.heap.size w wr ∧ Blk wr w.heap.size 27 #[.int .i64 kind, .int .u64 s0, .int .u64 s1, .int .u64 s2, .int .u64 s3, .slice A l.length c, .int .i64 num, .int .i64 mn, .int .i64 mx, .bool bare]) (fun _ kv _ => l.length - (intOf kv).toNat)
      case atStart => exact ⟨0, _, rfl, by first | rfl | simp, by omega, by simp [TL.leaves], HB.out⟩
      case round =>
        obtain ⟨k, n, rfl, rfl, hk, hn, hbel, hbx⟩ := hrel
        have c0 := hbx.cell
        by_cases hlt : k < l.length
        · have g1 : decide ((k : Int) < (l.length : Int)) = true := by simp; omega
          have hs := List.getElem?_eq_getElem hlt
          have hmem := List.getElem_mem hlt
          have hln : n ≤ 1000000 := by have := TL.leaves_take l k; have := TL.leaves_le l; omega
          have hln2 : (l[k]).leaves ≤ 1000000 := by have := T.leaves_le l[k]; have := TL.nodes_mem hmem; omega
          obtain ⟨b, o, B, c', rfl, hbk, hcs, hsub⟩ := TL.In.at_ (T.In_iff.1 hin0.out) hs
          have hsn := TL.nodes_mem hmem
          have htk : l.take (k + 1) = l.take k ++ [l[k]] := by rw [List.take_add_one, hs]; rfl
          generalize l[k] = s at *
          obtain ⟨n0, n1, n2, n3, n4, n5, n6, n7, n8, n9⟩ := (hcs.same (same_of_below hbel) hbk).node
          have HX := hide (ih s B c' wr (by omega) (by omega) (hsub.same (ok' := (· < wr.heap.size)) (same_of_below hbel) (fun x hx => Nat.lt_of_lt_of_le hx hbel.size)))
          have HH := hide (And.intro hn (And.intro htk (And.intro hbel hbx)))
          clear hs hcs hn htk hbel hbx
          go_wp2_with fail
          refine HX.out.mono ?_
          rintro e w1 ⟨rfl, hb1⟩
          have HB1 := hide (And.intro (HH.out.2.2.1.trans (hb1.mono HH.out.2.2.1.size)) (HH.out.2.2.2.below hb1 HH.out.2.2.2.lt))
          clear hb1
          go_wp2_with fail
          go_roundw
          case rel => exact ⟨k + 1, n + s.leaves, by go_num, by go_num, hlt, by rw [HH.out.2.1, TL.leaves_snoc, HH.out.1]; omega, HB1.out⟩
          case measure => simp [intOf]; omega
        · have g1 : decide ((k : Int) < (l.length : Int)) = false := by simp; omega
          rw [List.take_of_length_le (by omega), ← HR.out.1] at hn
          have HH := hide (And.intro hn hbel)
          clear hn hbel hbx
          go_wp2_with fail
          go_ret
          exact ⟨by rw [← HH.out.1]; rfl, HH.out.2⟩
end Go.Proofs.YtbbhobojghmkpaaDoor
