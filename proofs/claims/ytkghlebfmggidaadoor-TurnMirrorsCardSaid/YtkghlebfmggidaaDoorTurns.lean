/- Chunks: Rows of chunks of ten cells: taken apart, written, turned about. Plain lists.
Rev: slices.Reverse at []api.Node.
Copy: tree.Copy: the same tree in memory of its own.
Turn: turn.turn: in place. turn.Turn: of any tree.
Turn2: turn.turn: the walk. (Printed by gen_turn2.py.)
Turn3: turn.Turn: the turned tree, in memory of its own. -/
import Derived.Test.YtkghlebfmggidaaDoorOnly
import Derived.Test.YtkghlebfmggidaaDoorMix
import Derived.Outline
import Derived.Test.YtkghlebfmggidaaDoorGrow
set_option linter.unusedSimpArgs false
set_option linter.unusedVariables false
set_option linter.unnecessarySimpa false

/-! ## Chunks -/
namespace Go.Proofs.YtkghlebfmggidaaDoor

def Tens (X : List (List Value)) : Prop := ∀ c ∈ X, c.length = 10

theorem Tens.length {X : List (List Value)} (h : Tens X) : X.flatten.length = 10 * X.length := by
  induction X with
  | nil => rfl
  | cons c X ih =>
    have h1 := h c (by simp)
    have h2 := ih (fun d hd => h d (by simp [hd]))
    simp [h1, h2]
    omega

theorem Tens.at_ {X : List (List Value)} (h : Tens X) {p : Nat} {c : List Value} (hp : X[p]? = some c) (tail : List Value) :
    (X.flatten ++ tail).take (p * 10) = (X.take p).flatten ∧ (X.flatten ++ tail).drop (p * 10) = c ++ ((X.drop (p + 1)).flatten ++ tail) := by
  have hlt : p < X.length := (List.getElem?_eq_some_iff.1 hp).1
  have hsplit : X = X.take p ++ (c :: X.drop (p + 1)) := by
    have h1 : X.drop p = X[p] :: X.drop (p + 1) := List.drop_eq_getElem_cons hlt
    have h2 : X[p] = c := (List.getElem?_eq_some_iff.1 hp).2
    rw [h2] at h1
    rw [← h1, List.take_append_drop]
  have hl : ((X.take p).flatten).length = p * 10 := by
    have h1 : Tens (X.take p) := fun d hd => h d (List.mem_of_mem_take hd)
    rw [h1.length, List.length_take]
    omega
  have e : X.flatten ++ tail = (X.take p).flatten ++ (c ++ ((X.drop (p + 1)).flatten ++ tail)) := by
    conv => lhs; rw [hsplit]
    simp
  exact ⟨by rw [e, List.take_left' hl], by rw [e, List.drop_left' hl]⟩

theorem Tens.set {X : List (List Value)} (h : Tens X) {p : Nat} {c d : List Value} (hp : X[p]? = some c) (hd : d.length = 10) (tail : List Value) :
    splice (X.flatten ++ tail) (p * 10) d = (X.set p d).flatten ++ tail := by
  have hlt : p < X.length := (List.getElem?_eq_some_iff.1 hp).1
  obtain ⟨h1, h2⟩ := h.at_ hp tail
  have hc : c.length = 10 := h c (List.mem_of_getElem? hp)
  rw [splice, h1, hd, ← List.drop_drop, h2, List.drop_left' hc]
  rw [List.set_eq_take_append_cons_drop, if_pos hlt]
  simp

theorem Tens.set_tens {X : List (List Value)} (h : Tens X) (p : Nat) {d : List Value} (hd : d.length = 10) : Tens (X.set p d) := by
  intro c hc
  rcases List.mem_or_eq_of_mem_set hc with hc | rfl
  · exact h c hc
  · exact hd

theorem ten_of {c : List Value} (h : c.length = 10) : ∃ v0 v1 v2 v3 v4 v5 v6 v7 v8 v9, c = [v0, v1, v2, v3, v4, v5, v6, v7, v8, v9] := by
  match c, h with
  | [v0, v1, v2, v3, v4, v5, v6, v7, v8, v9], _ => exact ⟨v0, v1, v2, v3, v4, v5, v6, v7, v8, v9, rfl⟩

/-- What a list looks like when its first i and last i places have been exchanged. -/
def Turned (X Y : List (List Value)) (i : Nat) : Prop :=
  Y.length = X.length ∧ ∀ p, p < X.length → Y[p]? = if p < i ∨ X.length - 1 - i < p then X[X.length - 1 - p]? else X[p]?

theorem Turned.zero (X : List (List Value)) : Turned X X 0 := ⟨rfl, fun p hp => by rw [if_neg (by omega)]⟩

theorem Turned.step {X Y : List (List Value)} {i j : Nat} {c d : List Value} (h : Turned X Y i) (hj : j = X.length - 1 - i) (hij : i < j) (hc : Y[i]? = some c) (hd : Y[j]? = some d) :
    Turned X ((Y.set i d).set j c) (i + 1) := by
  refine ⟨by simpa using h.1, fun p hp => ?_⟩
  have hl := h.1
  have hi' := h.2 i (by omega)
  have hj' := h.2 j (by omega)
  rw [if_neg (by omega)] at hi' hj'
  rw [List.getElem?_set, List.getElem?_set]
  by_cases hpj : j = p
  · subst hpj
    rw [if_pos rfl, if_pos (by simp; omega), if_pos (by omega), show X.length - 1 - j = i from by omega, ← hi', hc]
  · rw [if_neg hpj]
    by_cases hpi : i = p
    · subst hpi
      rw [if_pos rfl, if_pos (by omega), if_pos (by omega), show X.length - 1 - i = j from by omega, ← hj', hd]
    · rw [if_neg hpi, h.2 p hp]
      by_cases h1 : p < i ∨ X.length - 1 - i < p
      · rw [if_pos h1, if_pos (by omega)]
      · rw [if_neg h1, if_neg (by omega)]

theorem Turned.done {X Y : List (List Value)} {i : Nat} (h : Turned X Y i) (hi : X.length ≤ 2 * i + 1) : Y = X.reverse := by
  apply List.ext_getElem?
  intro p
  by_cases hp : p < X.length
  · rw [h.2 p hp, List.getElem?_reverse hp]
    split
    · rfl
    · rw [show X.length - 1 - p = p from by omega]
  · rw [List.getElem?_eq_none (by rw [h.1]; omega), List.getElem?_eq_none (by simp; omega)]
end Go.Proofs.YtkghlebfmggidaaDoor

/-! ## Rev -/
namespace Go.Proofs.YtkghlebfmggidaaDoor
open Go.RowKit

def OneCells (X : List (List Value)) : Prop := ∀ c ∈ X, ∀ u ∈ c, u.oneCell' = true

set_option maxRecDepth 100000 in
set_option maxHeartbeats 400000 in
theorem reverse_any (X : List (List Value)) (hX : Tens X) (h1 : OneCells X) (tail : List Value) (g c : Nat) (cur0 : Array Value) (w : World) (hn : X.length ≤ 1000000) (hrow : Blk w g 27 cur0) (hcur : cur0.toList = X.flatten ++ tail) :
    Calls Tryd.prog 45 #[.slice (some ⟨g, 0, none⟩) X.length c] w fun e w' => e = .returned (.tuple #[]) ∧ Only (· = g) w w' ∧ ∃ cur, Blk w' g 27 cur ∧ cur.toList = X.reverse.flatten ++ tail := by
  have hlen : (X.length : Int) ≤ 1000000 := by omega
  go_enter Tryd.func45, Tryd.ntmps45
  go_wp2_with fail
  go_loopw [2, 3] (fun iv jv wr => ∃ (k : Nat) (Y : List (List Value)) (cur : Array Value), iv = .int .i64 k ∧ jv = .int .i64 ((X.length : Int) - 1 - k) ∧ 2 * k ≤ X.length + 1 ∧ Hid (Turned X Y k) ∧ Tens Y ∧ OneCells Y ∧ Only (· = g) w wr ∧
      Blk wr g 27 cur ∧ Hid (cur.toList = Y.flatten ++ tail)) (fun iv _ _ => X.length - (intOf iv).toNat)
  case atStart => exact ⟨0, X, cur0, rfl, by simp, by omega, Turned.zero X, hX, h1, Only.refl _ _, hrow, hcur⟩
  case round =>
    obtain ⟨k, Y, cur, rfl, rfl, hk, hT, hY, h1Y, hon, hrowr, hc⟩ := hrel
    by_cases hlt : 2 * k + 1 < X.length
    · obtain ⟨j, hj⟩ : ∃ j : Nat, j = X.length - 1 - k := ⟨_, rfl⟩
      have hji : (X.length : Int) - 1 - k = (j : Int) := by omega
      have hjk : k < j := by omega
      have hjX : j < X.length := by omega
      have hkX : k < X.length := by omega
      have hYl : Y.length = X.length := hT.out.1
      have hYk := List.getElem?_eq_getElem (show k < Y.length by omega)
      have hYj := List.getElem?_eq_getElem (show j < Y.length by omega)
      generalize Y[k] = ck at *
      generalize Y[j] = cj at *
      have lk : ck.length = 10 := hY _ (List.mem_of_getElem? hYk)
      have lj : cj.length = 10 := hY _ (List.mem_of_getElem? hYj)
      have hk1 := hY.at_ hYk tail
      have hj1 := hY.at_ hYj tail
      have nk := hide (fun (x : World) (h : Blk x g 27 cur) => (show CellsAt x ⟨g, k * 10, none⟩ ck by
        have := h.cellsAt (k * 10)
        rw [hc.out, hk1.2] at this
        exact this.left))
      have nj := hide (fun (x : World) (h : Blk x g 27 cur) => (show CellsAt x ⟨g, j * 10, none⟩ cj by
        have := h.cellsAt (j * 10)
        rw [hc.out, hj1.2] at this
        exact this.left))
      have hsz : cur.size = 10 * X.length + tail.length := by
        have := congrArg List.length hc.out
        rw [List.length_append, hY.length, hYl] at this
        simpa using this
      have HH := hide (And.intro hYl (And.intro hYk (And.intro hYj (And.intro hk1 (And.intro hj1 hj)))))
      clear hYl hYk hYj hk1 hj1 hj
      rw [hji]
      clear hji
      go_wp2_with fail
      refine wp_region_mix (fun x => Blk x g 27 cur) [13, 14, 15] (by kernel_rfl) (fun hcl => ?_)
      have hS : Blk wr.drew g 27 cur := hrowr
      refine wpAnyT_free (i := 0) hcl rfl (by kernel_rfl) (v := ?_) (fun _ _ _ h => h) hS (Or.inl ⟨rfl, fun w' _ => ?_⟩) (fun hcl => ?_)
      rotate_left
      · go_simp
        with_reducible rfl
      simp only [List.getElem_toArray, List.getElem_cons_zero, List.getElem_cons_succ, Act.put, List.setIfInBounds_toArray, List.set_cons_zero, List.set_cons_succ]
      refine wpAnyT_free (i := 1) hcl rfl (by kernel_rfl) (v := ?_) (fun _ _ _ h => h) hS (Or.inl ⟨rfl, fun w' _ => ?_⟩) (fun hcl => ?_)
      rotate_left
      · go_simp
        with_reducible rfl
      simp only [List.getElem_toArray, List.getElem_cons_zero, List.getElem_cons_succ, Act.put, List.setIfInBounds_toArray, List.set_cons_zero, List.set_cons_succ]
      refine wpAnyT_free (i := 2) hcl rfl (by kernel_rfl) (v := ?_) (fun _ _ _ h => h) hS (Or.inl ⟨rfl, fun w' _ => ?_⟩) (fun hcl => ?_)
      rotate_left
      · go_simp
        with_reducible rfl
      simp only [List.getElem_toArray, List.getElem_cons_zero, List.getElem_cons_succ, Act.put, List.setIfInBounds_toArray, List.set_cons_zero, List.set_cons_succ]
      refine wpAnyT_free (i := 3) hcl rfl (by kernel_rfl) (v := ?_) (fun _ _ _ h => h) hS (Or.inl ⟨rfl, fun w' _ => ?_⟩) (fun hcl => ?_)
      rotate_left
      · go_simp
        with_reducible rfl
      simp only [List.getElem_toArray, List.getElem_cons_zero, List.getElem_cons_succ, Act.put, List.setIfInBounds_toArray, List.set_cons_zero, List.set_cons_succ]
      refine wpAnyT_free (i := 4) hcl rfl (by kernel_rfl) (v := ?_) (fun _ _ _ h => h) hS (Or.inl ⟨rfl, fun w' _ => ?_⟩) (fun hcl => ?_)
      rotate_left
      · go_simp
        with_reducible rfl
      simp only [List.getElem_toArray, List.getElem_cons_zero, List.getElem_cons_succ, Act.put, List.setIfInBounds_toArray, List.set_cons_zero, List.set_cons_succ]
      refine wpAnyT_free (i := 5) hcl rfl (by kernel_rfl) (v := ?_) (fun _ _ _ h => h) hS (Or.inl ⟨rfl, fun w' _ => ?_⟩) (fun hcl => ?_)
      rotate_left
      · go_simp
        with_reducible rfl
      simp only [List.getElem_toArray, List.getElem_cons_zero, List.getElem_cons_succ, Act.put, List.setIfInBounds_toArray, List.set_cons_zero, List.set_cons_succ]
      refine wpAnyT_free (i := 6) hcl rfl (by kernel_rfl) (v := ?_) (fun _ _ _ h => h) hS (Or.inl ⟨rfl, fun w' _ => ?_⟩) (fun hcl => ?_)
      rotate_left
      · go_simp
        with_reducible rfl
      simp only [List.getElem_toArray, List.getElem_cons_zero, List.getElem_cons_succ, Act.put, List.setIfInBounds_toArray, List.set_cons_zero, List.set_cons_succ]
      refine wpAnyT_take (i := 7) hcl rfl (by kernel_rfl) (fun _ _ _ h => h) hS (Or.inl ⟨rfl, fun w' hS => run_load_cells _ _ rfl ⟨g, j * 10, none⟩ rfl cj _ Tryd.underlying27 rfl (by rw [lj]; exact Tryd.sizeNode) (nj.out _ hS)⟩) (fun hcl => ?_)
      simp only [List.getElem_toArray, List.getElem_cons_zero, List.getElem_cons_succ, Act.put, List.setIfInBounds_toArray, List.set_cons_zero, List.set_cons_succ]
      refine wpAnyT_free (i := 8) hcl rfl (by kernel_rfl) (v := ?_) (fun _ _ _ h => h) hS (Or.inl ⟨rfl, fun w' _ => ?_⟩) (fun hcl => ?_)
      rotate_left
      · go_simp
        with_reducible rfl
      simp only [List.getElem_toArray, List.getElem_cons_zero, List.getElem_cons_succ, Act.put, List.setIfInBounds_toArray, List.set_cons_zero, List.set_cons_succ]
      refine wpAnyT_free (i := 9) hcl rfl (by kernel_rfl) (v := ?_) (fun _ _ _ h => h) hS (Or.inl ⟨rfl, fun w' _ => ?_⟩) (fun hcl => ?_)
      rotate_left
      · go_simp
        with_reducible rfl
      simp only [List.getElem_toArray, List.getElem_cons_zero, List.getElem_cons_succ, Act.put, List.setIfInBounds_toArray, List.set_cons_zero, List.set_cons_succ]
      refine wpAnyT_free (i := 10) hcl rfl (by kernel_rfl) (v := ?_) (fun _ _ _ h => h) hS (Or.inl ⟨rfl, fun w' _ => ?_⟩) (fun hcl => ?_)
      rotate_left
      · go_simp
        with_reducible rfl
      simp only [List.getElem_toArray, List.getElem_cons_zero, List.getElem_cons_succ, Act.put, List.setIfInBounds_toArray, List.set_cons_zero, List.set_cons_succ]
      refine wpAnyT_take (i := 11) hcl rfl (by kernel_rfl) (fun _ _ _ h => h) hS (Or.inl ⟨rfl, fun w' hS => run_load_cells _ _ rfl ⟨g, k * 10, none⟩ rfl ck _ Tryd.underlying27 rfl (by rw [lk]; exact Tryd.sizeNode) (nk.out _ hS)⟩) (fun hcl => ?_)
      simp only [List.getElem_toArray, List.getElem_cons_zero, List.getElem_cons_succ, Act.put, List.setIfInBounds_toArray, List.set_cons_zero, List.set_cons_succ]
      refine wpAnyT_free (i := 12) hcl rfl (by kernel_rfl) (v := ?_) (fun _ _ _ h => h) hS (Or.inl ⟨rfl, fun w' _ => ?_⟩) (fun hcl => ?_)
      rotate_left
      · go_simp
        with_reducible rfl
      simp only [List.getElem_toArray, List.getElem_cons_zero, List.getElem_cons_succ, Act.put, List.setIfInBounds_toArray, List.set_cons_zero, List.set_cons_succ]
      refine wpAnyT_last (i := 13) hcl rfl (by kernel_rfl) (by kernel_rfl) (fun hcl => ?_)
      refine wpList_store_row rfl _ _ _ rfl g (k * 10) _ cur cj.toArray rfl rfl hS (by simpa [lj] using Tryd.sizeNode) (by simp [lj]; omega) (fun u hu => h1Y _ (List.mem_of_getElem? HH.out.2.2.1) u (by simpa using hu)) ?_
      intro w2 hrow2 hg2 hz2
      refine wpList_nil ?_
      refine wpAnyT_last (i := 14) hcl rfl (by kernel_rfl) (by kernel_rfl) (fun hcl => ?_)
      simp only [List.getElem_toArray, List.getElem_cons_zero, List.getElem_cons_succ, Act.put, List.setIfInBounds_toArray, List.set_cons_zero, List.set_cons_succ]
      go_wp2_with fail
      refine wpAnyT_last (i := 15) hcl rfl (by kernel_rfl) (by kernel_rfl) (fun hcl => ?_)
      simp only [List.getElem_toArray, List.getElem_cons_zero, List.getElem_cons_succ, Act.put, List.setIfInBounds_toArray, List.set_cons_zero, List.set_cons_succ]
      have hr2 : Blk w2 g 27 ((Y.set k cj).flatten ++ tail).toArray := by
        have := hrow2.out
        rw [hc.out, hY.set HH.out.2.1 lj tail] at this
        exact this
      have hsz2 := (hY.set_tens k lj).length
      rw [List.length_set, HH.out.1] at hsz2
      refine wpList_store_row rfl _ _ _ rfl g (j * 10) _ _ ck.toArray rfl rfl hr2 (by simpa [lk] using Tryd.sizeNode) (by simp [lk, hsz2]; omega) (fun u hu => h1Y _ (List.mem_of_getElem? HH.out.2.1) u (by simpa using hu)) ?_
      intro w3 hrow3 hg3 hz3
      refine wpList_nil ?_
      refine wpAnyT_done (by kernel_rfl) ?_ _
      have hset : ((Y.set k cj))[j]? = some cj := by
        rw [List.getElem?_set, if_neg (by omega)]
        exact HH.out.2.2.1
      have hr3 : Hid (Blk w3 g 27 ((((Y.set k cj).set j ck)).flatten ++ tail).toArray) := by
        have := hrow3.out
        rw [(hY.set_tens k lj).set hset lk tail] at this
        exact this
      clear hr2 hrow2 hrow3 hset hsz2 hcl
      go_wp2_with fail
      go_roundw
      case rel =>
        refine ⟨k + 1, (Y.set k cj).set j ck, _, by go_num, ?_, by omega, ?_, (hY.set_tens k lj).set_tens j lk, ?_, ?_, hr3.out, List.toList_toArray⟩
        · congr 1
          have := HH.out.2.2.2.2.2
          omega
        · exact hT.out.step HH.out.2.2.2.2.2 hjk HH.out.2.1 HH.out.2.2.1
        · intro d hd
          rcases List.mem_or_eq_of_mem_set hd with hd | rfl
          · rcases List.mem_or_eq_of_mem_set hd with hd | rfl
            · exact h1Y d hd
            · exact h1Y _ (List.mem_of_getElem? HH.out.2.2.1)
          · exact h1Y _ (List.mem_of_getElem? HH.out.2.1)
        · exact (hon.drew.then (Only.of_grown (bs := (· = g)) hg2 (fun b hb => by injection hb with hb; exact hb.symm)) (fun _ _ h => h)).then (Only.of_grown (bs := (· = g)) hg3 (fun b hb => by injection hb with hb; exact hb.symm)) (fun _ _ h => h)
      case measure => simp [intOf]; omega
    · go_wp2_with fail
      go_end0
      refine ⟨rfl, hon, cur, hrowr, ?_⟩
      rw [hc.out, hT.out.done (by omega)]
end Go.Proofs.YtkghlebfmggidaaDoor

/-! ## Copy -/
namespace Go.Proofs.YtkghlebfmggidaaDoor
open Go.RowKit

/-- What holds at the head of round k of a loop that fills row g with copies. -/
structure CopyInv (l : List T) (w wr : World) (g : Nat) (n k : Nat) (cur : Array Value) (bs : List Nat) : Prop where
  row : Blk wr g 27 cur
  size : cur.size = 10 * n
  own : TL.Own wr (l.take k) cur.toList bs
  nodup : bs.Nodup
  from_ : ∀ b ∈ bs, g < b ∧ b < wr.heap.size
  below : Below w.heap.size w wr

theorem CopyInv.step {l : List T} {w wr w1 w2 : World} {g n k : Nat} {cur : Array Value} {bs bs2 : List Nat} {s : T} {B : Option Addr} {c : Nat} {X : Obj}
    (hinv : CopyInv l w wr g n k cur bs) (hn : n = l.length) (hs : l[k]? = some s) (hbel : Below (wr.alloc X).heap.size (wr.alloc X) w1) (hown : T.Own w1 s B bs2) (hnd : bs2.Nodup)
    (hfr : ∀ b ∈ bs2, (wr.alloc X).heap.size ≤ b ∧ b < w1.heap.size) (hrow : Blk w2 g 27 (splice cur.toList (k * 10) (s.hd.cells (.slice B s.subs.length c))).toArray)
    (hg : w1.grownBy w2 (some g)) (hz : w2.heap.size = w1.heap.size) (hgw : w.heap.size ≤ g) : CopyInv l w w2 g n (k + 1) (splice cur.toList (k * 10) (s.hd.cells (.slice B s.subs.length c))).toArray (bs ++ bs2) := by
  have hk : k < l.length := (List.getElem?_eq_some_iff.1 hs).1
  have hgr := hinv.row.lt
  have hzz := hbel.size
  rw [World.size_alloc] at hfr hbel hzz
  have S : Same (fun b => b ≠ g ∧ b < wr.heap.size) wr w2 := fun b hb => by
    rw [hg.block b (by omega) (by simp [hb.1]), hbel.block b (by omega), Below.heap_alloc _ _ _ hb.2]
  have S1 : Same (· ∈ bs2) w1 w2 := fun b hb => hg.block b (hfr b hb).2 (by have := (hfr b hb).1; simp; omega)
  refine ⟨hrow, ?_, ?_, ?_, ?_, ?_⟩
  · have := length_splice cur.toList (k * 10) (s.hd.cells (.slice B s.subs.length c)) (by have := hinv.size; simp [Hd.cells]; omega)
    simpa [hinv.size] using this
  · have h1 := TL.Own.snoc (c := c) (tail := cur.toList.drop (k * 10 + 10)) (hown.same S1) (hinv.own.same (S.mono fun b hb => ⟨by have := (hinv.from_ b hb).1; omega, (hinv.from_ b hb).2⟩))
    rw [show l.take (k + 1) = l.take k ++ [s] from by rw [List.take_add_one, hs]; rfl]
    rw [show 10 * (l.take k).length = k * 10 from by rw [List.length_take]; omega] at h1
    simpa [splice, Hd.cells_length] using h1
  · refine List.nodup_append.2 ⟨hinv.nodup, hnd, fun a ha b hb => ?_⟩
    have := (hinv.from_ a ha).2
    have := (hfr b hb).1
    omega
  · intro b hb
    rcases List.mem_append.1 hb with hb | hb
    · have := hinv.from_ b hb; omega
    · have := hfr b hb; omega
  · refine ⟨?_, ?_, ?_, ?_, fun b hb => ?_⟩
    · exact (hg.os.trans hbel.os).trans hinv.below.os
    · exact (hg.tape.trans hbel.tape).trans hinv.below.tape
    · exact (hg.output.trans hbel.output).trans hinv.below.output
    · have := hinv.below.size; omega
    · rw [S b ⟨by omega, by have := hinv.below.size; omega⟩, hinv.below.block b hb]

set_option maxRecDepth 100000 in
set_option maxHeartbeats 1000000 in
theorem copy_any (N : Nat) : ∀ (t : T) (A : Option Addr) (c : Nat) (w : World), t.nodes ≤ N → N ≤ 1000000 → T.In w (· < w.heap.size) t A →
    Calls Tryd.prog 27 #[.agg (t.hd.cells (.slice A t.subs.length c)).toArray] w fun e w' =>
      ∃ B c' bs, e = .returned (.agg (t.hd.cells (.slice B t.subs.length c')).toArray) ∧ T.Own w' t B bs ∧ bs.Nodup ∧ (∀ b ∈ bs, w.heap.size ≤ b ∧ b < w'.heap.size) ∧ Below w.heap.size w w' := by
  induction N with
  | zero => intro t A c w h; have := t.nodes_pos; omega
  | succ N ih =>
    intro t A c w hN hM hin
    obtain ⟨h, l⟩ := t
    obtain ⟨kind, s0, s1, s2, s3, num, mn, mx, bare⟩ := h
    have hlen := T.length_lt (T.mk ⟨kind, s0, s1, s2, s3, num, mn, mx, bare⟩ l)
    simp only [T.hd, T.subs, Hd.cells] at hlen ⊢
    by_cases hl : l = []
    · subst hl
      have h0 : ((([] : List T).length : Int) == 0) = true := rfl
      go_enter Tryd.func27, Tryd.ntmps27
      go_wp2_with fail
      refine bodyPost_ret (v := .agg #[.int .i64 kind, .int .u64 s0, .int .u64 s1, .int .u64 s2, .int .u64 s3, .slice none 0 0, .int .i64 num, .int .i64 mn, .int .i64 mx, .bool bare])
        (by simp [results, Tryd.results27, go_sem]) rfl ?_
      exact ⟨none, 0, [], rfl, .inl ⟨rfl, rfl⟩, List.nodup_nil, by simp, ((Below.refl _ _).alloc (Nat.le_refl _) _).alloc (by simp) _⟩
    · have h0 : ((l.length : Int) == 0) = false := by simp [hl]
      have h1 : (l.length : Int) ≤ 1000000 := by omega
      obtain ⟨i0, hi, hz0, hz1, hz2⟩ := info_parts Tryd.infoNode
      have hmk := fun W => run_make_rowN (P := Tryd.prog) 25 27 i0 _ Tryd.underlying25 hi hz0 .i64 .i64 l.length l.length (Nat.le_refl _) (by rw [hz2]; omega) (by omega) W
      rw [hz1] at hmk
      have H := hide (And.intro hi (And.intro hz0 (And.intro hz1 hz2)))
      clear hi hz0 hz1 hz2
      go_enter Tryd.func27, Tryd.ntmps27
      go_wp2_with fail
      go_loopw [19] (fun kv wr => ∃ (k : Nat) (cur : Array Value) (bs : List Nat), kv = .int .i64 k ∧ k ≤ l.length ∧ CopyInv l w wr (w.heap.size + 2) l.length k cur bs ∧
          Blk wr w.heap.size 27 #[.int .i64 kind, .int .u64 s0, .int .u64 s1, .int .u64 s2, .int .u64 s3, .slice A l.length c, .int .i64 num, .int .i64 mn, .int .i64 mx, .bool bare] ∧
          Blk wr (w.heap.size + 1) 27 zeroCells) (fun kv _ => l.length - (intOf kv).toNat)
      case atStart =>
        refine ⟨0, _, [], rfl, Nat.zero_le _, ⟨by simpa using Blk.new ((w.alloc _).alloc _) _ _, ?_, rfl, List.nodup_nil, by simp, ?_⟩, ?_, ?_⟩
        · simp [madeCells]; omega
        · exact (((Below.refl _ _).alloc (Nat.le_refl _) _).alloc (by simp) _).alloc (by simp; omega) _
        · exact ((Blk.new _ _ _).alloc _).alloc _
        · have := (Blk.new (w.alloc (.cells #[.int .i64 kind, .int .u64 s0, .int .u64 s1, .int .u64 s2, .int .u64 s3, .slice A l.length c, .int .i64 num, .int .i64 mn, .int .i64 mx, .bool bare] 27)) 27 zeroCells).alloc (.cells (madeCells zeroCells (l.length * 10)) 27)
          rw [World.size_alloc] at this
          exact this
      case round =>
        obtain ⟨k, cur, bs, rfl, hk, hinv, hb0, hb1⟩ := hrel
        have c0 := hb0.cell
        have c1 : ∀ i : Nat, wr.cell? ⟨w.heap.size + 1, i, none⟩ = #[Value.int .i64 0, .int .u64 0, .int .u64 0, .int .u64 0, .int .u64 0, .slice none 0 0, .int .i64 0, .int .i64 0, .int .i64 0, .bool false][i]? := hb1.cell
        have f0 := hb0.frozen
        have f1 := hb1.frozen
        have z0 : w.heap.size < wr.heap.size := hb0.lt
        have z1 : w.heap.size + 1 < wr.heap.size := hb1.lt
        have z2 : w.heap.size + 2 < wr.heap.size := hinv.row.lt
        by_cases hlt : k < l.length
        · have hs := List.getElem?_eq_getElem hlt
          obtain ⟨b, o, B, c', rfl, hbk, hcs, hsub⟩ := TL.In.at_ (T.In_iff.1 hin) hs
          generalize l[k] = s at *
          obtain ⟨n0, n1, n2, n3, n4, n5, n6, n7, n8, n9⟩ := (hcs.same (same_of_below hinv.below) hbk).node
          have HS := hide hs
          clear hs
          have hsn : s.nodes ≤ N := by
            have := TL.nodes_mem (List.mem_of_getElem? HS.out)
            simp only [T.nodes] at hN
            omega
          go_wp2_with fail
          refine (ih s B c' _ hsn (by omega) (hsub.same (fun x hx => ?_) (fun x hx => ?_))).mono ?_
          · rw [Below.heap_alloc wr _ x (Nat.lt_of_lt_of_le hx hinv.below.size)]
            exact hinv.below.block x hx
          · simp; have := hinv.below.size; omega
          rintro e w1 ⟨B', c2, bs2, rfl, hown2, hnd2, hfr2, hbel2⟩
          have hrow1 : Blk w1 (w.heap.size + 2) 27 cur := (hinv.row.alloc _).below hbel2 (by simp; omega)
          go_wp2_with (refine wpList_store_row rfl _ _ _ rfl (w.heap.size + 2) (k * 10) _ cur _ rfl rfl hrow1 rfl (by rw [hinv.size]; simp [Hd.cells]; omega) (cells_one _ _ _ _) ?_)
          intro w2 hrow2 hg2 hz2
          go_wp2_with fail
          go_roundw
          case rel =>
            refine ⟨k + 1, _, bs ++ bs2, by go_num, by omega, hinv.step rfl HS.out hbel2 hown2 hnd2 hfr2 hrow2.out hg2 hz2 (by omega), ?_, ?_⟩
            · exact ((hb0.alloc _).below hbel2 (by simp; omega)).grown hg2 (by simp)
            · exact ((hb1.alloc _).below hbel2 (by simp; omega)).grown hg2 (by simp)
          case measure => simp [intOf]; omega
        · have hke : k = l.length := by omega
          have HI := hide hinv
          clear hinv
          subst hke
          go_wp2_with fail
          have hinv := HI.out
          refine bodyPost_ret (v := .agg #[.int .i64 kind, .int .u64 s0, .int .u64 s1, .int .u64 s2, .int .u64 s3, .slice (some ⟨w.heap.size + 2, 0, none⟩) l.length l.length, .int .i64 num, .int .i64 mn, .int .i64 mx, .bool bare])
            (by simp [results, Tryd.results27, go_sem, c1]) rfl ?_
          refine ⟨_, _, (w.heap.size + 2) :: bs, rfl, .inr ⟨w.heap.size + 2, cur, bs, rfl, rfl, hinv.row.same (ok := fun b => w.heap.size + 2 ≤ b) ?_ (Nat.le_refl _), (by simpa using hinv.own : TL.Own wr l cur.toList bs).same (Same.mono (ok := fun b => w.heap.size + 2 ≤ b) ?_ fun b hb => ?_)⟩, ?_, ?_, ?_⟩
          · repeat refine Same.set ?_ (by simp) _
            exact Same.refl _ _
          · repeat refine Same.set ?_ (by simp) _
            exact Same.refl _ _
          · have := hinv.from_ b hb; omega
          · exact List.nodup_cons.2 ⟨fun hb => by have := hinv.from_ _ hb; omega, hinv.nodup⟩
          · intro b hb
            simp only [World.size_setCell]
            rcases List.mem_cons.1 hb with rfl | hb
            · omega
            · have := hinv.from_ b hb; omega
          · repeat refine Below.setCell ?_ (by simp) _
            exact hinv.below

end Go.Proofs.YtkghlebfmggidaaDoor

/-! ## Turn -/
namespace Go.Proofs.YtkghlebfmggidaaDoor
open Go.RowKit

def Hd.turn (h : Hd) : Hd := if h.kind = 3 then { h with kind := 4 } else if h.kind = 4 then { h with kind := 3 } else h
mutual
def T.turn : T → T
  | .mk h l => .mk h.turn (if h.kind = 5 then (TL.turn l).reverse else TL.turn l)
def TL.turn : List T → List T
  | [] => []
  | t :: ts => t.turn :: TL.turn ts
end
theorem TL.turn_eq : ∀ l : List T, TL.turn l = l.map T.turn
  | [] => rfl
  | t :: ts => by simp [TL.turn, TL.turn_eq ts]
theorem T.turn_subs_length (t : T) : t.turn.subs.length = t.subs.length := by
  cases t
  simp only [T.turn, T.subs, TL.turn_eq]
  split <;> simp

/-- A list taken apart at a place. -/
theorem TL.Own.split {w : World} {s : T} {post : List T} : ∀ {pre : List T} {xs : List Value} {bs : List Nat}, TL.Own w (pre ++ s :: post) xs bs →
    ∃ B c b1 b2 b3 rest, xs.drop (pre.length * 10) = s.hd.cells (.slice B s.subs.length c) ++ rest ∧ bs = b1 ++ (b2 ++ b3) ∧ T.Own w s B b2 ∧
      ∀ (w' : World) (s' : T) (b2' : List Nat), Same (fun b => b ∈ b1 ∨ b ∈ b3) w w' → T.Own w' s' B b2' → s'.subs.length = s.subs.length →
        TL.Own w' (pre ++ s' :: post) (splice xs (pre.length * 10) (s'.hd.cells (.slice B s.subs.length c))) (b1 ++ (b2' ++ b3))
  | [], xs, bs, ⟨B, c, b1, b2, rest, h1, h2, h3, h4⟩ => by
    refine ⟨B, c, [], b1, b2, rest, by simpa using h1, by simpa using h2, h3, fun w' s' b2' hs ho hl => ?_⟩
    refine ⟨B, c, b2', b2, rest, ?_, by simp, ho, h4.same (hs.mono fun b hb => .inr hb)⟩
    subst h1
    rw [hl]
    simp [splice, Hd.cells_length]
    exact List.drop_left' (Hd.cells_length _ _)
  | t :: pre, xs, bs, ⟨B0, c0, q1, q2, rest0, h1, h2, h3, h4⟩ => by
    obtain ⟨B, c, b1, b2, b3, rest, k1, k2, k3, k4⟩ := TL.Own.split (pre := pre) h4
    subst h1; subst k2; subst h2
    have hl10 : (t.hd.cells (.slice B0 t.subs.length c0)).length = 10 := Hd.cells_length _ _
    have e : (t :: pre).length * 10 = (t.hd.cells (.slice B0 t.subs.length c0)).length + pre.length * 10 := by rw [hl10]; simp; omega
    refine ⟨B, c, q1 ++ b1, b2, b3, rest, ?_, by simp, k3, fun w' s' b2' hs ho hl => ?_⟩
    · rw [e, ← List.drop_drop, List.drop_left]
      exact k1
    · refine ⟨B0, c0, q1, b1 ++ (b2' ++ b3), _, ?_, by simp, h3.same (hs.mono fun b hb => .inl (by simp [hb])), k4 w' s' b2' (hs.mono fun b hb => hb.imp (fun h => by simp [h]) id) ho hl⟩
      rw [splice, e, List.take_length_add_append, Nat.add_assoc, List.append_assoc]
      congr 1
      rw [splice, ← List.drop_drop, List.drop_left]

/-- A list turned about. -/
theorem TL.Own.rev {w : World} : ∀ {l : List T} {xs : List Value} {bs : List Nat}, TL.Own w l xs bs →
    ∃ X tail, Tens X ∧ OneCells X ∧ X.length = l.length ∧ xs = X.flatten ++ tail ∧ ∀ (w' : World) (tail' : List Value), Same (· ∈ bs) w w' → ∃ bs', (∀ b, b ∈ bs' ↔ b ∈ bs) ∧ (bs.Nodup → bs'.Nodup) ∧ TL.Own w' l.reverse (X.reverse.flatten ++ tail') bs'
  | [], xs, bs, h => ⟨[], xs, by simp [Tens], by simp [OneCells], rfl, by simp, fun w' tail' _ => ⟨[], by have h' : bs = [] := h; simp [h'], by simp, rfl⟩⟩
  | t :: ts, xs, bs, ⟨B, c, b1, b2, rest, h1, h2, h3, h4⟩ => by
    obtain ⟨X, tail, k1, k2, k3, k4, k5⟩ := TL.Own.rev h4
    subst h1; subst h2; subst k4
    refine ⟨t.hd.cells (.slice B t.subs.length c) :: X, tail, ?_, ?_, by simp [k3], by simp, fun w' tail' hs => ?_⟩
    · intro d hd
      rcases List.mem_cons.1 hd with rfl | hd
      · rfl
      · exact k1 d hd
    · intro d hd
      rcases List.mem_cons.1 hd with rfl | hd
      · exact cells_one _ _ _ _
      · exact k2 d hd
    · obtain ⟨bs', q1, q2, q3⟩ := k5 w' (t.hd.cells (.slice B t.subs.length c) ++ tail') (hs.mono fun b hb => by simp [hb])
      refine ⟨bs' ++ b1, fun b => by simp [q1, or_comm], fun hnd => ?_, ?_⟩
      · have hnd' := List.nodup_append.1 hnd
        refine List.nodup_append.2 ⟨q2 hnd'.2.1, hnd'.1, fun x hx y hy e => hnd'.2.2 y hy x ((q1 x).1 hx) e.symm⟩
      · have := TL.Own.snoc (c := c) (tail := tail') (h3.same (hs.mono fun b hb => by simp [hb])) q3
        have hl : X.reverse.flatten.length = 10 * ts.reverse.length := by
          have : Tens X.reverse := fun d hd => k1 d (by simpa using hd)
          rw [this.length]
          simp [k3]
        rw [List.take_left' hl] at this
        simpa using this
end Go.Proofs.YtkghlebfmggidaaDoor

/-! ## Turn2 -/
namespace Go.Proofs.YtkghlebfmggidaaDoor
open Go.RowKit

theorem Blk.set_ {w : World} {g : Nat} {t : TypeId} {cs : Array Value} (h : Blk w g t cs) (i : Nat) (u : Value) : Blk (w.setCell ⟨g, i, none⟩ u) g t (cs.setIfInBounds i u) := by
  unfold Blk at h ⊢
  simp [World.setCell, Array.getElem?_modify, h]

set_option maxRecDepth 100000 in
theorem reverse_none (A : Option Addr) (c : Nat) (w : World) : Calls Tryd.prog 45 #[.slice A 0 c] w fun e w' => e = .returned (.tuple #[]) ∧ w' = w := by
  go_enter Tryd.func45, Tryd.ntmps45
  go_wp2_with fail
  refine wp_loop_rounds 1 ?_
  rw [rounds_succ]
  go_wp2_with fail
  go_end0
  exact ⟨rfl, rfl⟩

/-- What holds at the head of a round: the first k trees of m are turned; pb is the node's own block. -/
structure TurnInv (bs0 : List Nat) (m : List T) (w wr : World) (pb g n k : Nat) (pcur cur : Array Value) (bs : List Nat) : Prop where
  row : Blk wr g 27 cur
  own : TL.Own wr ((m.take k).map T.turn ++ m.drop k) cur.toList bs
  nodup : bs.Nodup
  sub : ∀ b ∈ bs, b ∈ bs0
  node : Blk wr pb 27 pcur
  only : Only (fun b => b = pb ∨ b = g ∨ b ∈ bs0) w wr

theorem TurnInv.step {bs0 : List Nat} {m : List T} {w wr w1 : World} {pb g n k : Nat} {pcur cur cur1 : Array Value} {bs b1 b2 b3 b2' : List Nat} {s : T} {B : Option Addr} {c : Nat} (h : TurnInv bs0 m w wr pb g n k pcur cur bs) (hs : m[k]? = some s)
    (hgp : g ≠ pb) (hg0 : g ∉ bs0) (hp0 : pb ∉ bs0) (hlt : ∀ b ∈ bs0, b < wr.heap.size)
    (hb : bs = b1 ++ (b2 ++ b3)) (hre : ∀ (w' : World) (s' : T) (b2' : List Nat), Same (fun b => b ∈ b1 ∨ b ∈ b3) wr w' → T.Own w' s' B b2' → s'.subs.length = s.subs.length →
        TL.Own w' ((m.take k).map T.turn ++ s' :: m.drop (k + 1)) (splice cur.toList (k * 10) (s'.hd.cells (.slice B s.subs.length c))) (b1 ++ (b2' ++ b3)))
    (hon : Only (fun b => b = g ∨ b ∈ b2) wr w1) (hrow : Blk w1 g 27 cur1) (hcur : cur1.toList = splice cur.toList (k * 10) (s.turn.hd.cells (.slice B s.subs.length c)))
    (hsub : ∀ b ∈ b2', b ∈ b2) (hnd : b2'.Nodup) (hown : T.Own w1 s.turn B b2') : TurnInv bs0 m w w1 pb g n (k + 1) pcur cur1 (b1 ++ (b2' ++ b3)) := by
  subst hb
  have hk : k < m.length := (List.getElem?_eq_some_iff.1 hs).1
  have hnd0 := List.nodup_append.1 h.nodup
  have hnd1 := List.nodup_append.1 hnd0.2.1
  have S : Same (fun b => b ∈ b1 ∨ b ∈ b3) wr w1 := hon.same fun b hb => by
    have hb0 : b ∈ bs0 := h.sub b (by rcases hb with hb | hb <;> simp [hb])
    refine ⟨hlt b hb0, fun hx => ?_⟩
    rcases hx with rfl | hx
    · exact hg0 hb0
    · rcases hb with hb | hb
      · exact hnd0.2.2 b hb b (by simp [hx]) rfl
      · exact hnd1.2.2 b hx b hb rfl
  refine ⟨hrow, ?_, ?_, ?_, ?_, ?_⟩
  · rw [show (m.take (k + 1)).map T.turn ++ m.drop (k + 1) = (m.take k).map T.turn ++ s.turn :: m.drop (k + 1) from by rw [List.take_add_one, hs]; simp]
    rw [hcur]
    exact hre w1 s.turn b2' S hown (T.turn_subs_length s)
  · refine List.nodup_append.2 ⟨hnd0.1, List.nodup_append.2 ⟨hnd, hnd1.2.1, fun x hx y hy => hnd1.2.2 x (hsub x hx) y hy⟩, fun x hx y hy => hnd0.2.2 x hx y ?_⟩
    rcases List.mem_append.1 hy with hy | hy
    · simp [hsub y hy]
    · simp [hy]
  · intro b hb
    refine h.sub b ?_
    simp only [List.mem_append] at hb ⊢
    rcases hb with hb | hb | hb
    · exact .inl hb
    · exact .inr (.inl (hsub b hb))
    · exact .inr (.inr hb)
  · refine (hon.block pb h.node.lt fun hx => ?_).trans h.node
    rcases hx with hx | hx
    · exact hgp hx.symm
    · exact hp0 (h.sub pb (by simp [hx]))
  · exact h.only.then hon fun b _ hx => by
      rcases hx with hx | hx
      · exact .inr (.inl hx)
      · exact .inr (.inr (h.sub b (by simp [hx])))

/-- What turn leaves of a node at a place of block pb. -/
def TurnPost (t : T) (A : Option Addr) (c pb : Nat) (bs : List Nat) (pre rest : List Value) (w w' : World) : Prop :=
  Only (fun b => b = pb ∨ b ∈ bs) w w' ∧
      ∃ pcur' bs', Blk w' pb 27 pcur' ∧ pcur'.toList = pre ++ (t.turn.hd.cells (.slice A t.subs.length c) ++ rest) ∧ (∀ b ∈ bs', b ∈ bs) ∧ bs'.Nodup ∧ T.Own w' t.turn A bs'

set_option maxRecDepth 100000 in
set_option maxHeartbeats 4000000 in
theorem turn_any (M : Nat) : ∀ (t : T) (A : Option Addr) (c pb po : Nat) (bs : List Nat) (pcur : Array Value) (pre rest : List Value) (w : World), t.nodes ≤ M → M ≤ 1000000 → Blk w pb 27 pcur → Hid (pcur.toList = pre ++ (t.hd.cells (.slice A t.subs.length c) ++ rest)) →
    Hid (pre.length = po) → T.Own w t A bs → bs.Nodup → pb ∉ bs → (∀ b ∈ bs, b < w.heap.size) →
    Calls Tryd.prog 36 #[.pointer (some ⟨pb, po, none⟩)] w fun e w' => e = .returned (.tuple #[]) ∧ TurnPost t A c pb bs pre rest w w' := by
  induction M with
  | zero => intro t A c pb po bs pcur pre rest w h; have := t.nodes_pos; omega
  | succ M ih =>
    intro t A c pb po bs pcur pre rest w hM hM2 hp hpc hpo hown hnd hpb hlt0
    have hown' := T.Own_iff.1 hown
    obtain ⟨h, l⟩ := t
    obtain ⟨kind, s0, s1, s2, s3, num, mn, mx, bare⟩ := h
    have hlen := T.length_lt (T.mk ⟨kind, s0, s1, s2, s3, num, mn, mx, bare⟩ l)
    simp only [T.nodes] at hM
    simp only [T.nodes, T.hd, T.subs] at hlen hown' hpc
    have hfit : po + 10 ≤ pcur.size := by
      have h1 := congrArg List.length hpc.out
      have h2 := hpo.out
      simp [Hd.cells_length] at h1
      omega
    have hn := (show CellsAt w ⟨pb, po, none⟩ _ from (by
      have h1 := hp.cellsAt po
      rw [hpc.out, List.drop_left' hpo.out] at h1
      exact h1.left)).node
    simp only [] at hn
    obtain ⟨n0, n1, n2, n3, n4, n5, n6, n7, n8, n9⟩ := hn
    clear n1 n2 n3 n4 n6 n7 n8 n9
    have hfz := hp.frozen
    have hset : ∀ q : Int, (pcur.setIfInBounds po (.int .i64 q)).toList = pre ++ (Hd.cells ⟨q, s0, s1, s2, s3, num, mn, mx, bare⟩ (.slice A l.length c) ++ rest) := fun q => by
      rw [Array.toList_setIfInBounds, hpc.out, ← hpo.out]
      simp [Hd.cells]
    have HSET := hide hset
    clear hset
    have hpz := hp.lt
    rcases hown' with ⟨rfl, rfl⟩ | ⟨g, cur0, bs', rfl, rfl, hrow0, hrest0⟩
    · by_cases k3 : kind = 3
      · subst k3
        go_enter Tryd.func36, Tryd.ntmps36
        go_wp2_with fail
        refine wp_loop_rounds 1 ?_
        rw [rounds_succ]
        go_wp2_with fail
        go_end0
        exact ⟨rfl, (Only.refl _ _).setCell (.inl (.inl rfl)) _, _, [], hp.set_ _ _, HSET.out 4, by simp, by simp, .inl ⟨by simp [TL.turn], rfl⟩⟩
      by_cases k4 : kind = 4
      · subst k4
        go_enter Tryd.func36, Tryd.ntmps36
        go_wp2_with fail
        refine wp_loop_rounds 1 ?_
        rw [rounds_succ]
        go_wp2_with fail
        go_end0
        exact ⟨rfl, (Only.refl _ _).setCell (.inl (.inl rfl)) _, _, [], hp.set_ _ _, HSET.out 3, by simp, by simp, .inl ⟨by simp [TL.turn], rfl⟩⟩
      have e3 : (kind == 3) = false := by simp [k3]
      have e4 : (kind == 4) = false := by simp [k4]
      by_cases k5 : kind = 5
      · subst k5
        go_enter Tryd.func36, Tryd.ntmps36
        go_wp2_with fail
        refine (reverse_none A c _).mono ?_
        rintro e w1 ⟨rfl, rfl⟩
        go_wp2_with fail
        refine wp_loop_rounds 1 ?_
        rw [rounds_succ]
        go_wp2_with fail
        go_end0
        exact ⟨rfl, Only.refl _ _, _, [], hp, by simpa [Hd.turn, T.turn, T.hd, T.subs] using hpc.out, by simp, by simp, .inl ⟨by simp [TL.turn], rfl⟩⟩
      · have e5 : (kind == 5) = false := by simp [k5]
        go_enter Tryd.func36, Tryd.ntmps36
        go_wp2_with fail
        refine wp_loop_rounds 1 ?_
        rw [rounds_succ]
        go_wp2_with fail
        go_end0
        exact ⟨rfl, Only.refl _ _, _, [], hp, by simpa [Hd.turn, T.turn, T.hd, T.subs, k3, k4] using hpc.out, by simp, by simp, .inl ⟨by simp [TL.turn], rfl⟩⟩
    · have hg : g < w.heap.size := hrow0.lt
      have hg0 : g ∉ bs' := (List.nodup_cons.1 hnd).1
      have hnd' := (List.nodup_cons.1 hnd).2
      have hgp : g ≠ pb := fun e => hpb (by simp [e])
      have hp0 : pb ∉ bs' := fun e => hpb (by simp [e])
      have hlt1 : ∀ b ∈ bs', b < w.heap.size := fun b hb => hlt0 b (by simp [hb])
      by_cases k3 : kind = 3
      · subst k3
        go_enter Tryd.func36, Tryd.ntmps36
        go_wp2_with fail
        go_loopw [29] (fun kv wr => ∃ (k : Nat) (cur : Array Value) (bs : List Nat), kv = .int .i64 k ∧ k ≤ l.length ∧ TurnInv bs' l w wr pb g l.length k (pcur.setIfInBounds po (.int .i64 4)) cur bs) (fun kv _ => l.length - (intOf kv).toNat)
        case atStart => exact ⟨0, _, _, rfl, Nat.zero_le _, ⟨hrow0.far (p := ⟨pb, po, none⟩) hgp _, hrest0.same ((Same.refl _ _).set (p := ⟨pb, po, none⟩) (fun h => hp0 h) _), hnd', fun b hb => hb, hp.set_ _ _, (Only.refl _ _).setCell (.inl (.inl rfl)) _⟩⟩
        case round =>
          obtain ⟨k, cur, bs, rfl, hk, hinv⟩ := hrel
          have hml : (l).length = l.length := by first | rfl | simp
          have hnr := (show CellsAt wr ⟨pb, po, none⟩ (Hd.cells ⟨4, s0, s1, s2, s3, num, mn, mx, bare⟩ (.slice (some ⟨g, 0, none⟩) l.length c)) from (by
            have h1 := hinv.node.cellsAt po
            rw [HSET.out 4, List.drop_left' hpo.out] at h1
            exact h1.left)).node
          have c5 := hnr.2.2.2.2.2.1
          clear hnr
          by_cases hlt : k < l.length
          · have hs := List.getElem?_eq_getElem (show k < (l).length by omega)
            have hd : (l).drop k = (l)[k] :: (l).drop (k + 1) := List.drop_eq_getElem_cons (by omega)
            have hsn : (l)[k].nodes ≤ TL.nodes l := TL.nodes_mem (by have := List.getElem_mem (show k < (l).length by omega); first | exact this | simpa using this)
            generalize (l)[k] = s at *
            have hown1 := hinv.own
            rw [hd] at hown1
            obtain ⟨B, c2, b1, b2, b3, rest2, q1, q2, q3, q4⟩ := hown1.split
            have hpl : (((l).take k).map T.turn).length = k := by simp; omega
            rw [hpl] at q1 q4
            have hck : cur.toList = cur.toList.take (k * 10) ++ (s.hd.cells (.slice B s.subs.length c2) ++ rest2) := by rw [← q1, List.take_append_drop]
            have hcl : (cur.toList.take (k * 10)).length = k * 10 := by
              have := congrArg List.length q1
              simp [Hd.cells_length] at this
              simp
              omega
            have hb2 : ∀ b ∈ b2, b ∈ bs' := fun b hb => hinv.sub b (by rw [q2]; simp [hb])
            have hlt2 : ∀ b ∈ bs', b < wr.heap.size := fun b hb => Nat.lt_of_lt_of_le (hlt1 b hb) hinv.only.size
            have hnb : bs.Nodup := hinv.nodup
            rw [q2] at hnb
            have HH := hide (And.intro hs (And.intro q2 q4))
            have HC := hide hck
            have HL := hide hcl
            have hrw := hinv.row
            have HI := hide hinv
            clear hs hd q1 q2 q4 hck hcl hpl hown1 hinv
            go_wp2_with fail
            refine (ih s B c2 g (k * 10) b2 cur (cur.toList.take (k * 10)) rest2 wr (by omega) (by omega) hrw HC HL q3 (List.nodup_append.1 (List.nodup_append.1 hnb).2.1).1 (fun h => hg0 (hb2 g h)) (fun b hb => hlt2 b (hb2 b hb))).mono ?_
            rintro e w1 ⟨rfl, hon1, cur1, b2', r1, r2, r3, r4, r5⟩
            have hc1 : cur1.toList = splice cur.toList (k * 10) (s.turn.hd.cells (.slice B s.subs.length c2)) := by
              rw [r2, splice]
              congr 2
              rw [← List.drop_drop]
              conv => rhs; rw [HC.out]
              rw [List.drop_left' HL.out]
              exact (List.drop_left' (Hd.cells_length _ _)).symm
            have HN := hide (HI.out.step (n := l.length) HH.out.1 hgp hg0 hp0 hlt2 HH.out.2.1 HH.out.2.2 hon1 r1 hc1 r3 r4 r5)
            clear HI HH HC HL hc1 r1 r2 r3 r4 r5 hon1
            go_wp2_with fail
            go_roundw
            case rel => exact ⟨k + 1, _, _, by go_num, by omega, HN.out⟩
            case measure => simp [intOf]; omega
          · have hke : k = (l).length := by omega
            go_wp2_with fail
            go_end0
            have ho := hinv.own
            rw [hke, List.take_length, List.drop_length, List.append_nil] at ho
            refine ⟨rfl, hinv.only.mono fun b _ hx => by rcases hx with hx | hx | hx <;> simp [hx], _, g :: bs, hinv.node, by rw [HSET.out 4]; simp [T.turn, T.hd, T.subs, Hd.turn], ?_, ?_, ?_⟩
            · intro b hb
              rcases List.mem_cons.1 hb with rfl | hb
              · simp
              · simp [hinv.sub b hb]
            · exact List.nodup_cons.2 ⟨fun hb => hg0 (hinv.sub g hb), hinv.nodup⟩
            · exact .inr ⟨g, cur, bs, rfl, rfl, hinv.row, by simpa [T.turn, T.subs, TL.turn_eq] using ho⟩
      by_cases k4 : kind = 4
      · subst k4
        go_enter Tryd.func36, Tryd.ntmps36
        go_wp2_with fail
        go_loopw [29] (fun kv wr => ∃ (k : Nat) (cur : Array Value) (bs : List Nat), kv = .int .i64 k ∧ k ≤ l.length ∧ TurnInv bs' l w wr pb g l.length k (pcur.setIfInBounds po (.int .i64 3)) cur bs) (fun kv _ => l.length - (intOf kv).toNat)
        case atStart => exact ⟨0, _, _, rfl, Nat.zero_le _, ⟨hrow0.far (p := ⟨pb, po, none⟩) hgp _, hrest0.same ((Same.refl _ _).set (p := ⟨pb, po, none⟩) (fun h => hp0 h) _), hnd', fun b hb => hb, hp.set_ _ _, (Only.refl _ _).setCell (.inl (.inl rfl)) _⟩⟩
        case round =>
          obtain ⟨k, cur, bs, rfl, hk, hinv⟩ := hrel
          have hml : (l).length = l.length := by first | rfl | simp
          have hnr := (show CellsAt wr ⟨pb, po, none⟩ (Hd.cells ⟨3, s0, s1, s2, s3, num, mn, mx, bare⟩ (.slice (some ⟨g, 0, none⟩) l.length c)) from (by
            have h1 := hinv.node.cellsAt po
            rw [HSET.out 3, List.drop_left' hpo.out] at h1
            exact h1.left)).node
          have c5 := hnr.2.2.2.2.2.1
          clear hnr
          by_cases hlt : k < l.length
          · have hs := List.getElem?_eq_getElem (show k < (l).length by omega)
            have hd : (l).drop k = (l)[k] :: (l).drop (k + 1) := List.drop_eq_getElem_cons (by omega)
            have hsn : (l)[k].nodes ≤ TL.nodes l := TL.nodes_mem (by have := List.getElem_mem (show k < (l).length by omega); first | exact this | simpa using this)
            generalize (l)[k] = s at *
            have hown1 := hinv.own
            rw [hd] at hown1
            obtain ⟨B, c2, b1, b2, b3, rest2, q1, q2, q3, q4⟩ := hown1.split
            have hpl : (((l).take k).map T.turn).length = k := by simp; omega
            rw [hpl] at q1 q4
            have hck : cur.toList = cur.toList.take (k * 10) ++ (s.hd.cells (.slice B s.subs.length c2) ++ rest2) := by rw [← q1, List.take_append_drop]
            have hcl : (cur.toList.take (k * 10)).length = k * 10 := by
              have := congrArg List.length q1
              simp [Hd.cells_length] at this
              simp
              omega
            have hb2 : ∀ b ∈ b2, b ∈ bs' := fun b hb => hinv.sub b (by rw [q2]; simp [hb])
            have hlt2 : ∀ b ∈ bs', b < wr.heap.size := fun b hb => Nat.lt_of_lt_of_le (hlt1 b hb) hinv.only.size
            have hnb : bs.Nodup := hinv.nodup
            rw [q2] at hnb
            have HH := hide (And.intro hs (And.intro q2 q4))
            have HC := hide hck
            have HL := hide hcl
            have hrw := hinv.row
            have HI := hide hinv
            clear hs hd q1 q2 q4 hck hcl hpl hown1 hinv
            go_wp2_with fail
            refine (ih s B c2 g (k * 10) b2 cur (cur.toList.take (k * 10)) rest2 wr (by omega) (by omega) hrw HC HL q3 (List.nodup_append.1 (List.nodup_append.1 hnb).2.1).1 (fun h => hg0 (hb2 g h)) (fun b hb => hlt2 b (hb2 b hb))).mono ?_
            rintro e w1 ⟨rfl, hon1, cur1, b2', r1, r2, r3, r4, r5⟩
            have hc1 : cur1.toList = splice cur.toList (k * 10) (s.turn.hd.cells (.slice B s.subs.length c2)) := by
              rw [r2, splice]
              congr 2
              rw [← List.drop_drop]
              conv => rhs; rw [HC.out]
              rw [List.drop_left' HL.out]
              exact (List.drop_left' (Hd.cells_length _ _)).symm
            have HN := hide (HI.out.step (n := l.length) HH.out.1 hgp hg0 hp0 hlt2 HH.out.2.1 HH.out.2.2 hon1 r1 hc1 r3 r4 r5)
            clear HI HH HC HL hc1 r1 r2 r3 r4 r5 hon1
            go_wp2_with fail
            go_roundw
            case rel => exact ⟨k + 1, _, _, by go_num, by omega, HN.out⟩
            case measure => simp [intOf]; omega
          · have hke : k = (l).length := by omega
            go_wp2_with fail
            go_end0
            have ho := hinv.own
            rw [hke, List.take_length, List.drop_length, List.append_nil] at ho
            refine ⟨rfl, hinv.only.mono fun b _ hx => by rcases hx with hx | hx | hx <;> simp [hx], _, g :: bs, hinv.node, by rw [HSET.out 3]; simp [T.turn, T.hd, T.subs, Hd.turn], ?_, ?_, ?_⟩
            · intro b hb
              rcases List.mem_cons.1 hb with rfl | hb
              · simp
              · simp [hinv.sub b hb]
            · exact List.nodup_cons.2 ⟨fun hb => hg0 (hinv.sub g hb), hinv.nodup⟩
            · exact .inr ⟨g, cur, bs, rfl, rfl, hinv.row, by simpa [T.turn, T.subs, TL.turn_eq] using ho⟩
      have e3 : (kind == 3) = false := by simp [k3]
      have e4 : (kind == 4) = false := by simp [k4]
      by_cases k5 : kind = 5
      · subst k5
        obtain ⟨X, tail, x1, x2, x3, x4, x5⟩ := hrest0.rev
        go_enter Tryd.func36, Tryd.ntmps36
        go_wp2_with fail
        rw [← x3]
        refine (reverse_any X x1 x2 tail g c cur0 w (by omega) hrow0 x4).mono ?_
        rintro e w1 ⟨rfl, hon0, cur1, y1, y2⟩
        rw [x3]
        obtain ⟨bs2, z1, z2, z3⟩ := x5 w1 tail (hon0.same fun b hb => ⟨hlt1 b hb, fun h => hg0 (h ▸ hb)⟩)
        rw [← y2] at z3
        have hp1 : Blk w1 pb 27 pcur := (hon0.block pb hpz (fun h => hgp h.symm)).trans hp
        have hcell5 : w1.cell? ⟨pb, po + 5, none⟩ = some (.slice (some ⟨g, 0, none⟩) l.length c) := by rw [hp1.cell, ← hp.cell]; exact n5
        clear x1 x2 x3 x4 x5 y2
        have HX := hide (And.intro z1 (And.intro z2 z3))
        clear z1 z2 z3
        go_wp2_with fail
        go_loopw [29] (fun kv wr => ∃ (k : Nat) (cur : Array Value) (bs : List Nat), kv = .int .i64 k ∧ k ≤ l.length ∧ TurnInv bs' l.reverse w wr pb g l.length k pcur cur bs) (fun kv _ => l.length - (intOf kv).toNat)
        case atStart => exact ⟨0, _, _, rfl, Nat.zero_le _, ⟨y1, by simpa using HX.out.2.2, HX.out.2.1 hnd', fun b hb => (HX.out.1 b).1 hb, hp1, hon0.mono fun b _ hx => .inr (.inl hx)⟩⟩
        case round =>
          obtain ⟨k, cur, bs, rfl, hk, hinv⟩ := hrel
          have hml : (l.reverse).length = l.length := by first | rfl | simp
          have hnr := (show CellsAt wr ⟨pb, po, none⟩ (Hd.cells ⟨5, s0, s1, s2, s3, num, mn, mx, bare⟩ (.slice (some ⟨g, 0, none⟩) l.length c)) from (by
            have h1 := hinv.node.cellsAt po
            rw [hpc.out, List.drop_left' hpo.out] at h1
            exact h1.left)).node
          have c5 := hnr.2.2.2.2.2.1
          clear hnr
          by_cases hlt : k < l.length
          · have hs := List.getElem?_eq_getElem (show k < (l.reverse).length by omega)
            have hd : (l.reverse).drop k = (l.reverse)[k] :: (l.reverse).drop (k + 1) := List.drop_eq_getElem_cons (by omega)
            have hsn : (l.reverse)[k].nodes ≤ TL.nodes l := TL.nodes_mem (by have := List.getElem_mem (show k < (l.reverse).length by omega); first | exact this | simpa using this)
            generalize (l.reverse)[k] = s at *
            have hown1 := hinv.own
            rw [hd] at hown1
            obtain ⟨B, c2, b1, b2, b3, rest2, q1, q2, q3, q4⟩ := hown1.split
            have hpl : (((l.reverse).take k).map T.turn).length = k := by simp; omega
            rw [hpl] at q1 q4
            have hck : cur.toList = cur.toList.take (k * 10) ++ (s.hd.cells (.slice B s.subs.length c2) ++ rest2) := by rw [← q1, List.take_append_drop]
            have hcl : (cur.toList.take (k * 10)).length = k * 10 := by
              have := congrArg List.length q1
              simp [Hd.cells_length] at this
              simp
              omega
            have hb2 : ∀ b ∈ b2, b ∈ bs' := fun b hb => hinv.sub b (by rw [q2]; simp [hb])
            have hlt2 : ∀ b ∈ bs', b < wr.heap.size := fun b hb => Nat.lt_of_lt_of_le (hlt1 b hb) hinv.only.size
            have hnb : bs.Nodup := hinv.nodup
            rw [q2] at hnb
            have HH := hide (And.intro hs (And.intro q2 q4))
            have HC := hide hck
            have HL := hide hcl
            have hrw := hinv.row
            have HI := hide hinv
            clear hs hd q1 q2 q4 hck hcl hpl hown1 hinv
            go_wp2_with fail
            refine (ih s B c2 g (k * 10) b2 cur (cur.toList.take (k * 10)) rest2 wr (by omega) (by omega) hrw HC HL q3 (List.nodup_append.1 (List.nodup_append.1 hnb).2.1).1 (fun h => hg0 (hb2 g h)) (fun b hb => hlt2 b (hb2 b hb))).mono ?_
            rintro e w1 ⟨rfl, hon1, cur1, b2', r1, r2, r3, r4, r5⟩
            have hc1 : cur1.toList = splice cur.toList (k * 10) (s.turn.hd.cells (.slice B s.subs.length c2)) := by
              rw [r2, splice]
              congr 2
              rw [← List.drop_drop]
              conv => rhs; rw [HC.out]
              rw [List.drop_left' HL.out]
              exact (List.drop_left' (Hd.cells_length _ _)).symm
            have HN := hide (HI.out.step (n := l.length) HH.out.1 hgp hg0 hp0 hlt2 HH.out.2.1 HH.out.2.2 hon1 r1 hc1 r3 r4 r5)
            clear HI HH HC HL hc1 r1 r2 r3 r4 r5 hon1
            go_wp2_with fail
            go_roundw
            case rel => exact ⟨k + 1, _, _, by go_num, by omega, HN.out⟩
            case measure => simp [intOf]; omega
          · have hke : k = (l.reverse).length := by omega
            go_wp2_with fail
            go_end0
            have ho := hinv.own
            rw [hke, List.take_length, List.drop_length, List.append_nil] at ho
            refine ⟨rfl, hinv.only.mono fun b _ hx => by rcases hx with hx | hx | hx <;> simp [hx], _, g :: bs, hinv.node, by rw [hpc.out]; simp [T.turn, T.hd, T.subs, Hd.turn], ?_, ?_, ?_⟩
            · intro b hb
              rcases List.mem_cons.1 hb with rfl | hb
              · simp
              · simp [hinv.sub b hb]
            · exact List.nodup_cons.2 ⟨fun hb => hg0 (hinv.sub g hb), hinv.nodup⟩
            · exact .inr ⟨g, cur, bs, rfl, rfl, hinv.row, by simpa [T.turn, T.subs, TL.turn_eq] using ho⟩
      · have e5 : (kind == 5) = false := by simp [k5]
        go_enter Tryd.func36, Tryd.ntmps36
        go_wp2_with fail
        go_loopw [29] (fun kv wr => ∃ (k : Nat) (cur : Array Value) (bs : List Nat), kv = .int .i64 k ∧ k ≤ l.length ∧ TurnInv bs' l w wr pb g l.length k pcur cur bs) (fun kv _ => l.length - (intOf kv).toNat)
        case atStart => exact ⟨0, _, _, rfl, Nat.zero_le _, ⟨hrow0, hrest0, hnd', fun b hb => hb, hp, Only.refl _ _⟩⟩
        case round =>
          obtain ⟨k, cur, bs, rfl, hk, hinv⟩ := hrel
          have hml : (l).length = l.length := by first | rfl | simp
          have hnr := (show CellsAt wr ⟨pb, po, none⟩ (Hd.cells ⟨kind, s0, s1, s2, s3, num, mn, mx, bare⟩ (.slice (some ⟨g, 0, none⟩) l.length c)) from (by
            have h1 := hinv.node.cellsAt po
            rw [hpc.out, List.drop_left' hpo.out] at h1
            exact h1.left)).node
          have c5 := hnr.2.2.2.2.2.1
          clear hnr
          by_cases hlt : k < l.length
          · have hs := List.getElem?_eq_getElem (show k < (l).length by omega)
            have hd : (l).drop k = (l)[k] :: (l).drop (k + 1) := List.drop_eq_getElem_cons (by omega)
            have hsn : (l)[k].nodes ≤ TL.nodes l := TL.nodes_mem (by have := List.getElem_mem (show k < (l).length by omega); first | exact this | simpa using this)
            generalize (l)[k] = s at *
            have hown1 := hinv.own
            rw [hd] at hown1
            obtain ⟨B, c2, b1, b2, b3, rest2, q1, q2, q3, q4⟩ := hown1.split
            have hpl : (((l).take k).map T.turn).length = k := by simp; omega
            rw [hpl] at q1 q4
            have hck : cur.toList = cur.toList.take (k * 10) ++ (s.hd.cells (.slice B s.subs.length c2) ++ rest2) := by rw [← q1, List.take_append_drop]
            have hcl : (cur.toList.take (k * 10)).length = k * 10 := by
              have := congrArg List.length q1
              simp [Hd.cells_length] at this
              simp
              omega
            have hb2 : ∀ b ∈ b2, b ∈ bs' := fun b hb => hinv.sub b (by rw [q2]; simp [hb])
            have hlt2 : ∀ b ∈ bs', b < wr.heap.size := fun b hb => Nat.lt_of_lt_of_le (hlt1 b hb) hinv.only.size
            have hnb : bs.Nodup := hinv.nodup
            rw [q2] at hnb
            have HH := hide (And.intro hs (And.intro q2 q4))
            have HC := hide hck
            have HL := hide hcl
            have hrw := hinv.row
            have HI := hide hinv
            clear hs hd q1 q2 q4 hck hcl hpl hown1 hinv
            go_wp2_with fail
            refine (ih s B c2 g (k * 10) b2 cur (cur.toList.take (k * 10)) rest2 wr (by omega) (by omega) hrw HC HL q3 (List.nodup_append.1 (List.nodup_append.1 hnb).2.1).1 (fun h => hg0 (hb2 g h)) (fun b hb => hlt2 b (hb2 b hb))).mono ?_
            rintro e w1 ⟨rfl, hon1, cur1, b2', r1, r2, r3, r4, r5⟩
            have hc1 : cur1.toList = splice cur.toList (k * 10) (s.turn.hd.cells (.slice B s.subs.length c2)) := by
              rw [r2, splice]
              congr 2
              rw [← List.drop_drop]
              conv => rhs; rw [HC.out]
              rw [List.drop_left' HL.out]
              exact (List.drop_left' (Hd.cells_length _ _)).symm
            have HN := hide (HI.out.step (n := l.length) HH.out.1 hgp hg0 hp0 hlt2 HH.out.2.1 HH.out.2.2 hon1 r1 hc1 r3 r4 r5)
            clear HI HH HC HL hc1 r1 r2 r3 r4 r5 hon1
            go_wp2_with fail
            go_roundw
            case rel => exact ⟨k + 1, _, _, by go_num, by omega, HN.out⟩
            case measure => simp [intOf]; omega
          · have hke : k = (l).length := by omega
            go_wp2_with fail
            go_end0
            have ho := hinv.own
            rw [hke, List.take_length, List.drop_length, List.append_nil] at ho
            refine ⟨rfl, hinv.only.mono fun b _ hx => by rcases hx with hx | hx | hx <;> simp [hx], _, g :: bs, hinv.node, by rw [hpc.out]; simp [T.turn, T.hd, T.subs, Hd.turn, k3, k4, k5], ?_, ?_, ?_⟩
            · intro b hb
              rcases List.mem_cons.1 hb with rfl | hb
              · simp
              · simp [hinv.sub b hb]
            · exact List.nodup_cons.2 ⟨fun hb => hg0 (hinv.sub g hb), hinv.nodup⟩
            · exact .inr ⟨g, cur, bs, rfl, rfl, hinv.row, by simpa [T.turn, T.subs, TL.turn_eq, k3, k4, k5] using ho⟩
end Go.Proofs.YtkghlebfmggidaaDoor

/-! ## Turn3 -/
namespace Go.Proofs.YtkghlebfmggidaaDoor
open Go.RowKit

theorem splice_all {cur cs : List Value} (h : cs.length = cur.length) : splice cur 0 cs = cs := by
  simp [splice, h]

/-- A fresh tree: what a function that makes a tree hands back. -/
def Fresh (t : T) (w : World) (e : Ending) (w' : World) : Prop :=
  ∃ B c bs, e = .returned (.agg (t.hd.cells (.slice B t.subs.length c)).toArray) ∧ T.Own w' t B bs ∧ bs.Nodup ∧ (∀ b ∈ bs, w.heap.size ≤ b ∧ b < w'.heap.size) ∧ Below w.heap.size w w'

set_option maxRecDepth 100000 in
set_option maxHeartbeats 1000000 in
theorem Turn_any (t : T) (A : Option Addr) (c : Nat) (w : World) (hN : t.nodes ≤ 1000000) (hin : T.In w (· < w.heap.size) t A) :
    Calls Tryd.prog 21 #[.agg (t.hd.cells (.slice A t.subs.length c)).toArray] w (Fresh t.turn w) := by
  have hcopy := copy_any 1000000 t A c
  have hturn := turn_any 1000000 t
  have hsl := T.turn_subs_length t
  obtain ⟨h, l⟩ := t
  obtain ⟨kind, s0, s1, s2, s3, num, mn, mx, bare⟩ := h
  simp only [T.hd, T.subs, Hd.cells] at hcopy hturn ⊢
  have HC := hide hcopy
  have HT := hide hturn
  have HSL := hide hsl
  clear hcopy hturn hsl
  go_enter Tryd.func21, Tryd.ntmps21
  go_wp2_with fail
  refine (HC.out _ hN (by omega) (hin.same (((Same.refl _ _).alloc (fun b hb => hb) _).alloc (fun b hb => by simp; omega) _) (fun b hb => by simp; omega))).mono ?_
  rintro e w1 ⟨B, c', bs, rfl, hown, hnd, hfr, hbel⟩
  simp only [World.size_alloc] at hfr hbel
  have hz1 := hbel.size
  simp only [World.size_alloc] at hz1
  have hb0 : Blk w1 w.heap.size 27 #[.int .i64 kind, .int .u64 s0, .int .u64 s1, .int .u64 s2, .int .u64 s3, .slice A l.length c, .int .i64 num, .int .i64 mn, .int .i64 mx, .bool bare] :=
    ((Blk.new _ _ _).alloc _).below hbel (by omega)
  have hb1 : Blk w1 (w.heap.size + 1) 27 #[.int .i64 0, .int .u64 0, .int .u64 0, .int .u64 0, .int .u64 0, .slice none 0 0, .int .i64 0, .int .i64 0, .int .i64 0, .bool false] := by
    have := Blk.new (w.alloc (.cells #[.int .i64 kind, .int .u64 s0, .int .u64 s1, .int .u64 s2, .int .u64 s3, .slice A l.length c, .int .i64 num, .int .i64 mn, .int .i64 mx, .bool bare] 27)) 27 #[.int .i64 0, .int .u64 0, .int .u64 0, .int .u64 0, .int .u64 0, .slice none 0 0, .int .i64 0, .int .i64 0, .int .i64 0, .bool false]
    rw [World.size_alloc] at this
    exact this.below hbel (by omega)
  have hbw : Below w.heap.size w w1 := (((Below.refl _ _).alloc (Nat.le_refl _) _).alloc (by simp) _).trans (hbel.mono (by omega))
  go_wp2_with (refine wpList_store_row rfl _ _ _ rfl w.heap.size 0 _ _ _ rfl rfl hb0 Tryd.sizeNode (by simp) (by simp [Value.oneCell']) ?_)
  intro w2 hrow2 hg2 hz2
  have hrow2' := hrow2.out
  rw [splice_all (by simp)] at hrow2'
  clear hrow2
  have hb1' := hb1.grown hg2 (by simp)
  have hbw2 : Below w.heap.size w w2 := hbw.grown hg2 hbw.size (fun k hk => by injection hk with hk; omega)
  go_wp2_with fail
  refine (HT.out B c' w.heap.size 0 bs _ [] [] w2 hN (by omega) hrow2' (by simp [Hid]) rfl (hown.same fun b hb => hg2.block b (hfr b hb).2 (fun e => ?_)) hnd (fun hb => ?_) (fun b hb => ?_)).mono ?_
  · injection e with e
    have := (hfr b hb).1
    omega
  · have := (hfr _ hb).1; omega
  · have := (hfr b hb).2; omega
  rintro e w3 ⟨rfl, hon, pcur', bs', q1, q2, q3, q4, q5⟩
  have hb1'' : Blk w3 (w.heap.size + 1) 27 _ := (hon.block _ hb1'.lt (fun h => by
    rcases h with h | h
    · omega
    · have := (hfr _ h).1; omega)).trans hb1'
  have hbw3 : Below w.heap.size w w3 := hbw2.trans (hon.below hbw2.size (fun b hb => by
    rcases hb with hb | hb
    · omega
    · have := (hfr b hb).1; omega))
  simp only [List.nil_append, List.append_nil] at q2
  have q1' := hide q1
  have hn := (show CellsAt w3 ⟨w.heap.size, 0, none⟩ _ from (by
    have h1 := q1.cellsAt 0
    rw [q2, List.drop_zero] at h1
    exact h1)).node
  generalize T.turn _ = u at *
  have c1 := hb1''.cell
  have f1 := hb1''.frozen
  have z1 := hb1''.lt
  have hlt : ∀ b ∈ bs', w.heap.size + 2 ≤ b ∧ b < w3.heap.size := fun b hb => by
    have h1 := hfr b (q3 b hb)
    have h2 := hon.size
    omega
  have Q2 := hide q2
  have HB := hide hbw3
  clear q2 q1 hbw3 hon hb1' hb1 hb0 hrow2' hbw2 hbw hbel
  go_wp2_with fail
  refine bodyPost_ret (v := .agg #[.int .i64 u.hd.kind, .int .u64 u.hd.s0, .int .u64 u.hd.s1, .int .u64 u.hd.s2, .int .u64 u.hd.s3, .slice B l.length c', .int .i64 u.hd.num, .int .i64 u.hd.min, .int .i64 u.hd.max, .bool u.hd.bare])
    (by simp [results, Tryd.results21, go_sem, c1, T.subs]) rfl ?_
  refine ⟨B, c', bs', by rw [show u.subs.length = l.length from HSL.out]; rfl, q5.same (Same.mono (ok := fun b => w.heap.size + 2 ≤ b) ?_ fun b hb => (hlt b hb).1), q4, ?_, ?_⟩
  · repeat refine Same.set ?_ (by simp) _
    exact Same.refl _ _
  · intro b hb
    simp only [World.size_setCell]
    have := hlt b hb; omega
  · repeat refine Below.setCell ?_ (by simp) _
    exact HB.out
end Go.Proofs.YtkghlebfmggidaaDoor
