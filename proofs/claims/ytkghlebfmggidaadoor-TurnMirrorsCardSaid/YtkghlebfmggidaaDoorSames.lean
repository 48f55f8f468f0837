/- Few: trawlnum.Few: has a tree at most so many nodes.
Same: trawlnum.SameNodes: are two trees alike.
CopyNode: trawlnum.CopyNode: the same tree in memory of its own, by append. -/
import Derived.Test.YtkghlebfmggidaaDoorProg
import Derived.Test.YtkghlebfmggidaaDoorMem
import Derived.Outline
import Derived.Test.YtkghlebfmggidaaDoorCheck
import Derived.Test.YtkghlebfmggidaaDoorGrow
set_option linter.unusedSimpArgs false
set_option linter.unusedVariables false
set_option linter.unnecessarySimpa false

/-! ## Few -/
namespace Go.Proofs.YtkghlebfmggidaaDoor
open Go.RowKit

mutual
def T.left : T → Int → Int
  | .mk _ l, m => TL.left l (m - 1)
def TL.left : List T → Int → Int
  | [], m => m
  | t :: ts, m => if 0 ≤ m then TL.left ts (t.left m) else m
end
theorem TL.left_neg (l : List T) (m : Int) (h : m < 0) : TL.left l m = m := by
  cases l with
  | nil => rfl
  | cons t ts => simp [TL.left]; omega
theorem T.left_eq (t : T) (m : Int) : t.left m = TL.left t.subs (m - 1) := by cases t; simp [T.left, T.subs]
mutual
theorem T.left_bd : ∀ (t : T) (m : Int), 0 ≤ m → -1 ≤ t.left m ∧ t.left m ≤ m - 1 ∧ (0 ≤ t.left m → t.left m = m - t.nodes)
  | .mk _ l, m, h => by
    have := TL.left_bd l (m - 1) (by omega)
    simp only [T.left, T.nodes]
    omega
theorem TL.left_bd : ∀ (l : List T) (m : Int), -1 ≤ m → -1 ≤ TL.left l m ∧ TL.left l m ≤ m ∧ (0 ≤ TL.left l m → TL.left l m = m - TL.nodes l)
  | [], m, h => by simp [TL.left, TL.nodes]; omega
  | t :: ts, m, h => by
    simp only [TL.left, TL.nodes]
    split
    · rename_i h0
      have h1 := T.left_bd t m h0
      have h2 := TL.left_bd ts (t.left m) h1.1
      omega
    · omega
end

structure LeftInv (l : List T) (w wr : World) (g : Nat) (cs : Array Value) (k : Nat) (m cur : Int) : Prop where
  le : k ≤ l.length
  eq : TL.left (l.drop k) cur = TL.left l (m - 1)
  lo : -1 ≤ cur
  hi : cur ≤ m - 1
  box : Blk wr g 27 cs
  below : Below w.heap.size w wr

set_option maxRecDepth 100000 in
set_option maxHeartbeats 1000000 in
theorem left_any (N : Nat) : ∀ (t : T) (A : Option Addr) (c : Nat) (m : Int) (w : World), t.nodes ≤ N → t.wf → 0 ≤ m → m ≤ 1000000 → T.In w (· < w.heap.size) t A →
    Calls Tryd.prog 33 #[.agg (t.hd.cells (.slice A t.subs.length c)).toArray, .int .i64 m] w fun e w' => e = .returned (.int .i64 (t.left m)) ∧ Below w.heap.size w w' := by
  induction N with
  | zero => intro t A c m w h; have := t.nodes_pos; omega
  | succ N ih =>
    intro t A c m w hN hwf hm hM hin
    rw [T.left_eq]
    obtain ⟨h, l⟩ := t
    obtain ⟨kind, s0, s1, s2, s3, num, mn, mx, bare⟩ := h
    have hlen := (T.wf_eq.1 hwf).2.1
    have hwl := (T.wf_eq.1 hwf).2.2
    simp only [T.nodes] at hN
    simp only [T.hd, T.subs, Hd.cells] at hlen hwl ⊢
    go_enter Tryd.func33, Tryd.ntmps33
    go_wp2_with fail
    go_loopw [1, 5] (fun cv kv wr => ∃ (k : Nat) (cur : Int), kv = .int .i64 k ∧ cv = .int .i64 cur ∧ LeftInv l w wr w.heap.size #[.int .i64 kind, .int .u64 s0, .int .u64 s1, .int .u64 s2, .int .u64 s3, .slice A l.length c, .int .i64 num, .int .i64 mn, .int .i64 mx, .bool bare] k m cur)
      (fun _ kv _ => l.length - (intOf kv).toNat)
    case atStart => exact ⟨0, m - 1, rfl, rfl, ⟨Nat.zero_le _, rfl, by omega, Int.le_refl _, Blk.new _ _ _, (Below.refl _ _).alloc (Nat.le_refl _) _⟩⟩
    case round =>
      obtain ⟨k, cur, rfl, rfl, hinv⟩ := hrel
      have hk := hinv.le
      have lo := hinv.lo
      have hi := hinv.hi
      have c0 := hinv.box.cell
      by_cases hlt : k < l.length
      · have g1 : decide ((k : Int) < (l.length : Int)) = true := by simp; omega
        by_cases hc : 0 ≤ cur
        · have g2 : decide (0 ≤ cur) = true := by simp [hc]
          have hs := List.getElem?_eq_getElem hlt
          obtain ⟨b, o, B, c', rfl, hbk, hcs, hsub⟩ := TL.In.at_ (T.In_iff.1 hin) hs
          have hmem := List.getElem_mem hlt
          have hsn := TL.nodes_mem hmem
          have hsw := TL.wf_mem hwl hmem
          have hdrop : l.drop k = l[k] :: l.drop (k + 1) := List.drop_eq_getElem_cons hlt
          have heq := hinv.eq
          rw [hdrop, TL.left, if_pos hc] at heq
          have hbd := T.left_bd l[k] cur hc
          generalize l[k] = s at *
          obtain ⟨n0, n1, n2, n3, n4, n5, n6, n7, n8, n9⟩ := (hcs.same (same_of_below hinv.below) hbk).node
          have HS := hide (And.intro hs (And.intro hdrop heq))
          clear hs hdrop heq hcs
          have z0 := hinv.below.size
          go_wp2_with fail
          refine (ih s B c' cur _ (by omega) hsw hc (by omega) (hsub.same (same_of_below hinv.below) (fun x hx => by omega))).mono ?_
          rintro e w1 ⟨rfl, hb1⟩
          have hbd' := hbd
          go_wp2_with fail
          go_roundw
          case rel => exact ⟨k + 1, s.left cur, by go_num, rfl, ⟨hlt, HS.out.2.2, hbd.1, by omega, hinv.box.below hb1 hinv.box.lt, hinv.below.trans (hb1.mono hinv.below.size)⟩⟩
          case measure => simp [intOf]; omega
        · have g2 : decide (0 ≤ cur) = false := by simp; omega
          go_wp2_with fail
          go_ret
          exact ⟨by rw [← hinv.eq, TL.left_neg _ _ (by omega)]; rfl, hinv.below⟩
      · have g1 : decide ((k : Int) < (l.length : Int)) = false := by simp; omega
        go_wp2_with fail
        go_ret
        exact ⟨by rw [← hinv.eq, List.drop_eq_nil_of_le (by omega)]; rfl, hinv.below⟩

set_option maxRecDepth 100000 in
theorem few_any (t : T) (A : Option Addr) (c : Nat) (m : Int) (w : World) (hwf : t.wf) (hm : 0 ≤ m) (hM : m ≤ 1000000) (hin : T.In w (· < w.heap.size) t A) :
    Calls Tryd.prog 19 #[.agg (t.hd.cells (.slice A t.subs.length c)).toArray, .int .i64 m] w fun e w' => e = .returned (.bool (decide (0 ≤ t.left m))) ∧ Below w.heap.size w w' := by
  have h1 := left_any t.nodes t A c m
  obtain ⟨h, l⟩ := t
  obtain ⟨kind, s0, s1, s2, s3, num, mn, mx, bare⟩ := h
  simp only [T.hd, T.subs, Hd.cells] at h1 ⊢
  have H := hide h1
  clear h1
  go_enter Tryd.func19, Tryd.ntmps19
  go_wp2_with fail
  refine (H.out _ (Nat.le_refl _) hwf hm hM (hin.same (fun b hb => Below.heap_alloc _ _ _ hb) (fun b hb => by simp; omega))).mono ?_
  rintro e w1 ⟨rfl, hb1⟩
  go_wp2_with fail
  go_ret
  exact ⟨rfl, ((Below.refl _ _).alloc (Nat.le_refl _) _).trans (hb1.mono (by simp))⟩

theorem few_nodes {t : T} {m : Int} (hm : 0 ≤ m) (h : decide (0 ≤ t.left m) = true) : (t.nodes : Int) ≤ m := by
  have := (T.left_bd t m hm).2.2 (by simpa using h)
  have h' : 0 ≤ t.left m := by simpa using h
  omega
end Go.Proofs.YtkghlebfmggidaaDoor

/-! ## Same -/
namespace Go.Proofs.YtkghlebfmggidaaDoor
open Go.RowKit

def Hd.same (a b : Hd) : Bool := a.kind == b.kind && (a.s0 == b.s0 && a.s1 == b.s1 && a.s2 == b.s2 && a.s3 == b.s3) && a.num == b.num && a.min == b.min && a.max == b.max && a.bare == b.bare
mutual
def T.same : T → T → Bool
  | .mk h l, .mk h' l' => h.same h' && l.length == l'.length && TL.same l l'
def TL.same : List T → List T → Bool
  | t :: ts, t' :: ts' => t.same t' && TL.same ts ts'
  | _, _ => true
end
theorem T.same_eq (a b : T) : a.same b = (a.hd.same b.hd && a.subs.length == b.subs.length && TL.same a.subs b.subs) := by cases a; cases b; rfl

theorem Hd.same_iff {a b : Hd} : a.same b = true ↔ a = b := by
  cases a; cases b
  simp [Hd.same]
  constructor
  · rintro ⟨⟨⟨⟨⟨h1, h2⟩, h3⟩, h4⟩, h5⟩, h6⟩
    simp_all
  · rintro ⟨h1, h2, h3, h4, h5, h6, h7, h8, h9⟩
    simp_all

end Go.Proofs.YtkghlebfmggidaaDoor

/-! ## CopyNode -/
namespace Go.Proofs.YtkghlebfmggidaaDoor
open Go.RowKit

end Go.Proofs.YtkghlebfmggidaaDoor
