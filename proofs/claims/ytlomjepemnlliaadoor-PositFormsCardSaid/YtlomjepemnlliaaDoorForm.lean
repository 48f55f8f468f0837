/- tree.form: is the whole tree in form. -/
import Derived.Test.YtlomjepemnlliaaDoorSize
set_option linter.unusedSimpArgs false
set_option linter.unusedVariables false
namespace Go.Proofs.YtlomjepemnlliaaDoor
open Go.RowKit

structure FormInv (l : List T) (w wr : World) (g : Nat) (cs : Array Value) (k : Nat) : Prop where
  le : k ≤ l.length
  eq : TL.form (l.drop k) = TL.form l
  box : Blk wr g 52 cs
  below : Below w.heap.size w wr

set_option maxRecDepth 100000 in
set_option maxHeartbeats 2000000 in
theorem form_any (N : Nat) : ∀ (t : T) (A : Option Addr) (c : Nat) (w : World), t.nodes ≤ N → N ≤ 1000000 → T.In w (· < w.heap.size) t A →
    Calls Tryd.prog 96 #[.agg (t.hd.cells (.slice A t.subs.length c)).toArray] w fun e w' => e = .returned (.bool t.form) ∧ Below w.heap.size w w' := by
  induction N with
  | zero => intro t A c w h; have := t.nodes_pos; omega
  | succ N ih =>
    intro t A c w hN hM hin
    obtain ⟨h, l⟩ := t
    have hlen0 := T.length_lt (T.mk h l)
    simp only [T.nodes] at hN
    have hfo := hide (fun x => formed_any (.mk h l) A c x (by simp only [T.subs, T.nodes] at hlen0 ⊢; omega))
    have hfe := T.form_eq (.mk h l)
    simp only [T.hd, T.subs] at hfe
    obtain ⟨kind, s0, s1, s2, s3, num, mn, mx, bare⟩ := h
    simp only [T.nodes, T.hd, T.subs, Hd.cells] at hlen0 hfo ⊢
    obtain ⟨res, hres⟩ : ∃ r, r = (T.mk ⟨kind, s0, s1, s2, s3, num, mn, mx, bare⟩ l).form := ⟨_, rfl⟩
    rw [← hres] at hfe ⊢
    have HR := hide hfe
    clear hres hfe
    obtain ⟨fo, hq⟩ : ∃ f, f = Hd.formed ⟨kind, s0, s1, s2, s3, num, mn, mx, bare⟩ l.length := ⟨_, rfl⟩
    rw [← hq] at HR hfo
    clear hq
    go_enter Tryd.func96, Tryd.ntmps96
    go_wp2_with fail
    refine (hfo.out _).mono ?_
    rintro e w1 ⟨rfl, hb⟩
    have hb0 := (Blk.new w 52 _).below hb (by simp)
    have hz := hb.size
    rw [World.size_alloc] at hz
    have hbel := ((Below.refl _ _).alloc (Nat.le_refl _) _).trans (hb.mono (by simp))
    have c0 := hb0.cell
    clear hb hfo
    cases fo with
    | false =>
      have hbf := hide hbel
      clear hbel
      go_wp2_with fail
      go_ret
      exact ⟨by rw [HR.out]; rfl, hbf.out⟩
    | true =>
      go_wp2_with fail
      clear c0
      go_loopw [11] (fun kv wr => ∃ (k : Nat), kv = .int .i64 k ∧ FormInv l w wr w.heap.size #[.int .i64 kind, .int .u64 s0, .int .u64 s1, .int .u64 s2, .int .u64 s3, .slice A l.length c, .int .i64 num, .int .i64 mn, .int .i64 mx, .bool bare] k)
        (fun kv _ => l.length - (intOf kv).toNat)
      case atStart => exact ⟨0, rfl, ⟨Nat.zero_le _, rfl, hb0, hbel⟩⟩
      case round =>
        obtain ⟨k, rfl, hinv⟩ := hrel
        have hk := hinv.le
        have c0 := hinv.box.cell
        have z0 := hinv.box.lt
        by_cases hlt : k < l.length
        · have g1 : decide ((k : Int) < (l.length : Int)) = true := decide_eq_true (by omega)
          have hs := List.getElem?_eq_getElem hlt
          obtain ⟨b, o, B, c', rfl, hbk, hcs, hsub⟩ := TL.In.at_ (T.In_iff.1 hin) hs
          have hmem := List.getElem_mem hlt
          have hsn := TL.nodes_mem hmem
          have hdrop : l.drop k = l[k] :: l.drop (k + 1) := List.drop_eq_getElem_cons hlt
          have heq := hinv.eq
          rw [hdrop, TL.form] at heq
          generalize l[k] = s at *
          obtain ⟨n0, n1, n2, n3, n4, n5, n6, n7, n8, n9⟩ := (hcs.same (same_of_below hinv.below) hbk).node
          have HQ := hide heq
          have HI := hide hinv
          have hbx := hide (hinv.below)
          have HX := hide (fun y hy => ih s B c' y (by omega) (by omega) hy)
          have HB := hide (hsub.same (ok' := (· < wr.heap.size)) (same_of_below hinv.below) (fun x hx => Nat.lt_of_lt_of_le hx hinv.below.size))
          clear hs hcs hinv hdrop heq
          go_wp2_with fail
          refine (HX.out _ (HB.out.same (fun b hb => Below.heap_alloc _ _ _ hb) (fun b hb => by simp; omega))).mono ?_
          rintro e w1 ⟨rfl, hb1⟩
          have HH := hide (((Below.refl wr.heap.size wr).alloc (Nat.le_refl _) _).trans (hb1.mono (by simp)))
          clear hb1
          generalize s.form = sf at *
          cases sf with
          | false =>
            go_wp2_with fail
            go_ret
            exact ⟨by rw [HR.out, ← HQ.out]; rfl, hbx.out.trans (HH.out.mono hbx.out.size)⟩
          | true =>
            go_wp2_with fail
            go_roundw
            case rel => exact ⟨k + 1, by go_num, ⟨hlt, by rw [← HQ.out]; simp, HI.out.box.below HH.out z0, hbx.out.trans (HH.out.mono hbx.out.size)⟩⟩
            case measure => simp [intOf]; omega
        · have g1 : decide ((k : Int) < (l.length : Int)) = false := decide_eq_false (by omega)
          have he : TL.form l = true := by rw [← hinv.eq, List.drop_eq_nil_of_le (by omega)]; rfl
          have HE := hide he
          have HI := hide hinv.below
          clear hinv he
          go_wp2_with fail
          go_ret
          exact ⟨by rw [HR.out, HE.out]; rfl, HI.out⟩

/-- tree.Size. -/
def T.fullSize (t : T) : Int := if t.form = true then t.size else 0

end Go.Proofs.YtlomjepemnlliaaDoor
