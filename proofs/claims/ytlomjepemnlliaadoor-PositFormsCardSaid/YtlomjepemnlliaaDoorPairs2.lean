/- Two trees side by side in a list; a fresh tree under another name. -/
import Derived.Test.YtlomjepemnlliaaDoorMake2
set_option linter.unusedSimpArgs false
set_option linter.unusedVariables false
namespace Go.Proofs.YtlomjepemnlliaaDoor
open Go.RowKit

theorem T.In.next {w w' : World} {t : T} {B : Option Addr} (h : T.In w (· < w.heap.size) t B) (hb : Below w.heap.size w w') : T.In w' (· < w'.heap.size) t B := h.same (same_of_below hb) (fun y hy => Nat.lt_of_lt_of_le hy hb.size)
theorem Blk.next {w w' : World} {g : Nat} {t : TypeId} {cs : Array Value} (h : Blk w g t cs) (hb : Below w.heap.size w w') : Blk w' g t cs := h.below hb h.lt

theorem Fresh.from {t : T} {w w1 : World} {e : Ending} {w' : World} (h : Fresh t w1 e w') (hb : Below w.heap.size w w1) : Fresh t w e w' := by
  obtain ⟨B, c, bs, h1, h2, h3, h4, h5⟩ := h
  exact ⟨B, c, bs, h1, h2, h3, fun b hm => ⟨Nat.le_trans hb.size (h4 b hm).1, (h4 b hm).2⟩, hb.trans (h5.mono hb.size)⟩

theorem pair_in {w : World} {t u : T} {B C : Option Addr} (c d : Nat) (h1 : T.In w (· < w.heap.size) t B) (h2 : T.In w (· < w.heap.size) u C) :
    TL.In (w.alloc (.cells (t.hd.cells (.slice B t.subs.length c) ++ u.hd.cells (.slice C u.subs.length d)).toArray 52)) (· < (w.alloc (.cells (t.hd.cells (.slice B t.subs.length c) ++ u.hd.cells (.slice C u.subs.length d)).toArray 52)).heap.size) [t, u] (some ⟨w.heap.size, 0, none⟩) := by
  have hb := (Below.refl w.heap.size w).alloc (Nat.le_refl _) (.cells (t.hd.cells (.slice B t.subs.length c) ++ u.hd.cells (.slice C u.subs.length d)).toArray 52)
  have hk := Blk.new w 52 (t.hd.cells (.slice B t.subs.length c) ++ u.hd.cells (.slice C u.subs.length d)).toArray
  refine ⟨w.heap.size, 0, B, c, rfl, by simp, fun j x hx => ?_, h1.next hb, w.heap.size, 10, C, d, rfl, by simp, fun j x hx => ?_, h2.next hb, trivial⟩
  · rw [Addr.add_lit, Nat.zero_add, hk.cell, List.getElem?_toArray, List.getElem?_append_left (List.getElem?_eq_some_iff.1 hx).1]
    exact hx
  · rw [Addr.add_lit, hk.cell, List.getElem?_toArray, List.getElem?_append_right (by simp [Hd.cells_length])]
    simpa [Hd.cells_length] using hx

theorem seq2_any (t u : T) (B C : Option Addr) (c d : Nat) (w : World) (hN : t.nodes + u.nodes ≤ 1000000) (h1 : T.In w (· < w.heap.size) t B) (h2 : T.In w (· < w.heap.size) u C) :
    Calls Tryd.prog 55 #[.slice (some ⟨w.heap.size, 0, none⟩) 2 2] (w.alloc (.cells (t.hd.cells (.slice B t.subs.length c) ++ u.hd.cells (.slice C u.subs.length d)).toArray 52)) (Fresh (.mk ⟨5, 0, 0, 0, 0, 0, 0, 0, false⟩ [t, u]) w) :=
  (seq_any [t, u] (some ⟨w.heap.size, 0, none⟩) 2 _ (by simp [TL.nodes]; omega) (pair_in c d h1 h2)).mono fun e w' h => Fresh.from h ((Below.refl _ _).alloc (Nat.le_refl _) _)
theorem alt2_any (t u : T) (B C : Option Addr) (c d : Nat) (w : World) (hN : t.nodes + u.nodes ≤ 1000000) (h1 : T.In w (· < w.heap.size) t B) (h2 : T.In w (· < w.heap.size) u C) :
    Calls Tryd.prog 42 #[.slice (some ⟨w.heap.size, 0, none⟩) 2 2] (w.alloc (.cells (t.hd.cells (.slice B t.subs.length c) ++ u.hd.cells (.slice C u.subs.length d)).toArray 52)) (Fresh (.mk ⟨6, 0, 0, 0, 0, 0, 0, 0, false⟩ [t, u]) w) :=
  (alt_any [t, u] (some ⟨w.heap.size, 0, none⟩) 2 _ (by simp [TL.nodes]; omega) (pair_in c d h1 h2)).mono fun e w' h => Fresh.from h ((Below.refl _ _).alloc (Nat.le_refl _) _)

theorem Calls_fresh {f : FuncId} {args : Array Value} {t t' : T} {w : World} (h : Calls Tryd.prog f args w (Fresh t w)) (e : t = t') : Calls Tryd.prog f args w (Fresh t' w) := e ▸ h
end Go.Proofs.YtlomjepemnlliaaDoor
