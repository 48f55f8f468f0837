/- scene.Turned: the scene read from its end. -/
import Derived.Test.YtkghlebfmggidaaDoorSceneNew
import Derived.Test.YtkghlebfmggidaaDoorMirror
import Derived.Laws.IdiomStrings
set_option linter.unusedSimpArgs false
set_option linter.unusedVariables false
namespace Go.Proofs.YtkghlebfmggidaaDoor
open Go.RowKit

/-- Block g holds n bytes, f tells them. -/
def ByteRow (w : World) (g n : Nat) (f : Nat → Nat) : Prop := ∃ row : Array Value, Blk w g 5 row ∧ row.size = n ∧ ∀ i, i < n → row[i]? = some (.int .u8 ((f i : Nat) : Int))

section
variable {w w' : World} {m n : Nat} {f : Nat → Nat}
theorem ByteRow.cell (h : ByteRow w m n f) (i : Nat) (hi : i < n) : w.cell? ⟨m, i, none⟩ = some (.int .u8 ((f i : Nat) : Int)) := by
  obtain ⟨row, h1, _, h3⟩ := h
  rw [h1.cell, h3 i hi]
theorem ByteRow.frozen (h : ByteRow w m n f) (i : Nat) : w.frozen? ⟨m, i, none⟩ = false := by
  obtain ⟨row, h1, _, _⟩ := h
  exact h1.frozen i
theorem ByteRow.lt (h : ByteRow w m n f) : m < w.heap.size := by obtain ⟨row, h1, _⟩ := h; exact h1.lt
theorem ByteRow.same {ok : Nat → Prop} (h : ByteRow w m n f) (hs : Same ok w w') (hm : ok m) : ByteRow w' m n f := by
  obtain ⟨row, h1, h2⟩ := h
  exact ⟨row, h1.same hs hm, h2⟩
theorem ByteRow.far (h : ByteRow w m n f) {p : Addr} (hp : m ≠ p.block) (u : Value) : ByteRow (w.setCell p u) m n f := by
  obtain ⟨row, h1, h2⟩ := h
  exact ⟨row, h1.far hp u, h2⟩
theorem MarkRow.far (h : MarkRow w m n f) {p : Addr} (hp : m ≠ p.block) (u : Value) : MarkRow (w.setCell p u) m n f := by
  obtain ⟨row, h1, h2⟩ := h
  exact ⟨row, h1.far hp u, h2⟩
theorem ByteRow.set (h : ByteRow w m n f) (i v : Nat) (hi : i < n) : ByteRow (w.setCell ⟨m, i, none⟩ (.int .u8 (v : Int))) m n (fun j => if j = i then v else f j) := by
  obtain ⟨row, h1, h2, h3⟩ := h
  refine ⟨row.setIfInBounds i (.int .u8 (v : Int)), heap_setCell_same w m i row _ _ h1, by simp [h2], fun j hj => ?_⟩
  by_cases hij : i = j
  · subst hij; simp [show i < row.size by omega]
  · rw [Array.getElem?_setIfInBounds_ne hij, h3 j hj]
    simp [show ¬ j = i from fun e => hij e.symm]
theorem ByteRow.congr {g : Nat → Nat} (h : ByteRow w m n f) (e : ∀ i, i < n → f i = g i) : ByteRow w m n g := by
  obtain ⟨row, h1, h2, h3⟩ := h
  exact ⟨row, h1, h2, fun i hi => by rw [h3 i hi, e i hi]⟩
end

def turnMark (v : Nat) : Nat := v / 2 + v % 2 * 2
theorem turnMark_val (v : Nat) (h : v < 4) : bits .or .u8 ((v : Int) / 2) (IntKind.u8.wrap (bits .and .u8 (v : Int) 1 * 2)) = ((turnMark v : Nat) : Int) := by
  have : v = 0 ∨ v = 1 ∨ v = 2 ∨ v = 3 := by omega
  rcases this with e | e | e | e <;> subst e <;> decide
theorem size_rev (s : ByteArray) : (⟨s.data.toList.reverse.toArray⟩ : ByteArray).size = s.size := by
  show s.data.toList.reverse.toArray.size = s.data.size
  simp
theorem turnMark_bits (v : Nat) (h : v < 4) : (turnMark v).testBit 0 = v.testBit 1 ∧ (turnMark v).testBit 1 = v.testBit 0 ∧ turnMark v < 4 := by
  have : v = 0 ∨ v = 1 ∨ v = 2 ∨ v = 3 := by omega
  rcases this with e | e | e | e <;> subst e <;> decide

/-- A new scene was returned, x read from its end. -/
def TurnedScn (x : Sc) (w : World) (e : Ending) (w' : World) : Prop :=
  ∃ b m y, e = .returned (.pointer (some ⟨b, 0, none⟩)) ∧ Scn w' b m y ∧ Mirror x y ∧ Below w.heap.size w w'

set_option maxRecDepth 100000 in
set_option maxHeartbeats 2000000 in
theorem turned_any {w : World} {b m : Nat} {x : Sc} (h : Scn w b m x) (hs : x.len ≤ 140737488355328) :
    Calls Tryd.prog 22 #[.pointer (some ⟨b, 0, none⟩)] w (TurnedScn x w) := by
  obtain ⟨i0, hi, hz0, hz1, hz2⟩ := info_parts Tryd.infoU8
  have hmk := fun W => run_make_rowN (P := Tryd.prog) 62 5 i0 _ Tryd.underlying62 hi hz0 .i64 .i64 (x.len + 1) (x.len + 1) (Nat.le_refl _) (by rw [hz2]; omega) (by omega) W
  have hmk0 := fun W => run_make_rowN (P := Tryd.prog) 62 5 i0 _ Tryd.underlying62 hi hz0 .i64 .i64 x.len x.len (Nat.le_refl _) (by rw [hz2]; omega) (by omega) W
  rw [hz1] at hmk hmk0
  have hcast : ((x.len + 1 : Nat) : Int) = (x.len : Int) + 1 := by omega
  simp only [hcast] at hmk
  clear hi hz0 hz1 hz2 hcast
  have c0 := h.text
  have c1 := h.list
  have zb := h.box.lt
  have zm := h.row.lt
  have H := hide h
  clear h
  have hmarks : ∀ i, i ≤ x.len → w.cell? ⟨m, i, none⟩ = some (.int .u8 (x.mark i)) := H.out.at_
  have HMK := hide hmarks
  clear hmarks
  obtain ⟨s, ms⟩ := x
  simp only [Sc.len] at hs c0 c1 hmk hmk0 HMK
  go_enter Tryd.func22, Tryd.ntmps22
  go_wp2_with fail
  have hrow : MarkRow (((w.alloc (.cells (madeCells #[.int .u8 0] s.size) 5)).alloc (.cells (madeCells #[.int .u8 0] (s.size + 1)) 5)).alloc (.cells #[.string ⟨#[]⟩, .slice (some ⟨w.heap.size + 1, 0, none⟩) (s.size + 1) (s.size + 1)] 64)) (w.heap.size + 1) s.size (fun _ => 0) := by
    refine ⟨_, by simpa using (Blk.new (w.alloc _) _ _).alloc _, by simp [madeCells], fun i hi => ?_⟩
    simp [madeCells, show i < s.size + 1 by omega, Nat.mod_one]
  have hbyt : ByteRow (((w.alloc (.cells (madeCells #[.int .u8 0] s.size) 5)).alloc (.cells (madeCells #[.int .u8 0] (s.size + 1)) 5)).alloc (.cells #[.string ⟨#[]⟩, .slice (some ⟨w.heap.size + 1, 0, none⟩) (s.size + 1) (s.size + 1)] 64)) w.heap.size s.size (fun _ => 0) := by
    refine ⟨_, ((Blk.new w _ _).alloc _).alloc _, by simp [madeCells], fun i hi => ?_⟩
    simp [madeCells, show i < s.size by omega, Nat.mod_one]
  have hbox := Blk.new ((w.alloc (.cells (madeCells #[.int .u8 0] s.size) 5)).alloc (.cells (madeCells #[.int .u8 0] (s.size + 1)) 5)) 64 #[.string ⟨#[]⟩, .slice (some ⟨w.heap.size + 1, 0, none⟩) (s.size + 1) (s.size + 1)]
  simp only [World.size_alloc] at hbox
  have hbel := (((Below.refl w.heap.size w).alloc (Nat.le_refl _) (.cells (madeCells #[.int .u8 0] s.size) 5)).alloc (by simp) (.cells (madeCells #[.int .u8 0] (s.size + 1)) 5)).alloc (by simp; omega) (.cells #[.string ⟨#[]⟩, .slice (some ⟨w.heap.size + 1, 0, none⟩) (s.size + 1) (s.size + 1)] 64)
  generalize (((w.alloc (.cells (madeCells #[.int .u8 0] s.size) 5)).alloc (.cells (madeCells #[.int .u8 0] (s.size + 1)) 5)).alloc (.cells #[.string ⟨#[]⟩, .slice (some ⟨w.heap.size + 1, 0, none⟩) (s.size + 1) (s.size + 1)] 64)) = W at *
  clear hmk hmk0
  have HC := hide (And.intro c0 c1)
  clear c0 c1
  go_loopw [22] (fun iv wr => ∃ k : Nat, iv = .int .i64 k ∧ k ≤ s.size ∧ ByteRow wr w.heap.size s.size (fun j => if s.size ≤ j + k then byteAt s (s.size - 1 - j) else 0) ∧ MarkRow wr (w.heap.size + 1) s.size (fun _ => 0) ∧
      Blk wr (w.heap.size + 1 + 1) 64 #[.string ⟨#[]⟩, .slice (some ⟨w.heap.size + 1, 0, none⟩) (s.size + 1) (s.size + 1)] ∧ Below w.heap.size w wr) (fun iv _ => s.size - (intOf iv).toNat)
  case atStart => exact ⟨0, rfl, Nat.zero_le _, hbyt.congr fun i hi => by simp; omega, hrow, hbox, hbel⟩
  case round =>
    clear hrow hbyt hbox hbel
    obtain ⟨k, rfl, hk, hbyt, hrow, hbox, hbel⟩ := hrel
    have c0 := (hbel.cell zb).trans HC.out.1
    have c1 := (hbel.cell zb).trans HC.out.2
    have bf := hbyt.frozen
    have rf := hrow.frozen
    have xf := hbox.frozen
    have xc := hbox.cell
    have HI := hide (And.intro hbyt (And.intro hrow (And.intro hbox hbel)))
    by_cases hlt : k < s.size
    · have b0 := hbyt.cell (s.size - 1 - k) (by omega)
      rw [if_neg (by omega)] at b0
      clear hbyt hrow hbox hbel
      have g1 : decide ((k : Int) < (s.size : Int)) = true := decide_eq_true (by omega)
      have hat : (0 : Int) ≤ k ∧ (k : Int) < s.size := by omega
      have hby : byteAt s k = s[k].toNat := by
        have : k < s.data.toList.length := by simpa using hlt
        simp only [byteAt, List.getD_eq_getElem?_getD, List.getElem?_eq_getElem this]
        rfl
      have HB := hide hby
      clear hby
      go_wp2_with fail
      go_roundw
      case rel =>
        obtain ⟨h1, h2, h3, h4⟩ := HI.out
        refine ⟨k + 1, by go_num, hlt, (h1.set (s.size - 1 - k) s[k].toNat (by omega)).congr fun j hj => ?_, h2.far (by simp) _, h3.far (by simp; omega) _, h4.setCell (by simp) _⟩
        by_cases hj1 : j = s.size - 1 - k
        · subst hj1
          show (if s.size - 1 - k = s.size - 1 - k then s[k].toNat else _) = _
          rw [if_pos rfl, if_pos (by omega), ← HB.out, show s.size - 1 - (s.size - 1 - k) = k by omega]
        · show (if j = s.size - 1 - k then _ else if s.size ≤ j + k then byteAt s (s.size - 1 - j) else 0) = _
          rw [if_neg hj1]
          by_cases hj2 : s.size ≤ j + k
          · rw [if_pos hj2, if_pos (by omega)]
          · rw [if_neg hj2, if_neg (by omega)]
      case measure => simp [intOf]; omega
    · obtain rfl : k = s.size := by omega
      clear hbyt hrow hbox hbel bf rf xf xc
      go_wp2_with fail
      obtain ⟨h1, h2, h3, h4⟩ := HI.out
      have h1' := h1.congr (g := fun j => byteAt s (s.size - 1 - j)) fun i hi => by simp
      clear HI h1 c0 c1
      go_loopw [43] (fun iv wr' => ∃ k : Nat, iv = .int .i64 k ∧ k ≤ s.size + 1 ∧ ByteRow wr' w.heap.size s.size (fun j => byteAt s (s.size - 1 - j)) ∧ MarkRow wr' (w.heap.size + 1) s.size (fun j => if s.size < j + k then turnMark (Sc.mark ⟨s, ms⟩ (s.size - j)) else 0) ∧
          Blk wr' (w.heap.size + 1 + 1) 64 #[.string ⟨#[]⟩, .slice (some ⟨w.heap.size + 1, 0, none⟩) (s.size + 1) (s.size + 1)] ∧ Below w.heap.size w wr') (fun iv _ => s.size + 1 - (intOf iv).toNat)
      case atStart => exact ⟨0, rfl, Nat.zero_le _, h1', h2.congr fun i hi => by simp; omega, h3, h4⟩
      case round =>
        clear h1' h2 h3 h4
        obtain ⟨k, rfl, hk, hbyt, hrow, hbox, hbel⟩ := hrel
        have rf := hrow.frozen
        have xf := hbox.frozen
        have xc := hbox.cell
        have HI := hide (And.intro hbyt (And.intro hrow (And.intro hbox hbel)))
        by_cases hlt : k < s.size + 1
        · have hv4 := H.out.small k
          have b0 := (hbel.cell (p := ⟨m, k, none⟩) zm).trans (HMK.out k (by omega))
          have r0 := hrow.cell (s.size - k) (by omega)
          rw [if_neg (by omega)] at r0
          clear hbyt hrow hbox hbel
          generalize hv : Sc.mark ⟨s, ms⟩ k = v at *
          have HV := hide hv
          clear hv
          have g1 : decide ((k : Int) < (s.size : Int) + 1) = true := decide_eq_true (by omega)
          go_wp2_with fail
          go_roundw
          case rel =>
            obtain ⟨h1, h2, h3, h4⟩ := HI.out
            have e := turnMark_val v hv4
            rw [IntKind.wrap_u8] at e
            rw [e]
            refine ⟨k + 1, by go_num, hlt, h1.far (by simp) _, (h2.set (s.size - k) (turnMark v) (by omega)).congr fun j hj => ?_, h3.far (by simp) _, h4.setCell (by simp) _⟩
            by_cases hj1 : j = s.size - k
            · subst hj1
              show (if s.size - k = s.size - k then turnMark v else _) = _
              rw [if_pos rfl, if_pos (by omega), show s.size - (s.size - k) = k by omega, HV.out]
            · show (if j = s.size - k then _ else if s.size < j + k then turnMark (Sc.mark ⟨s, ms⟩ (s.size - j)) else 0) = _
              rw [if_neg hj1]
              by_cases hj2 : s.size < j + k
              · rw [if_pos hj2, if_pos (by omega)]
              · rw [if_neg hj2, if_neg (by omega)]
          case measure => simp [intOf]; omega
        · obtain rfl : k = s.size + 1 := by omega
          have hrow' := hrow.congr (g := fun j => turnMark (Sc.mark ⟨s, ms⟩ (s.size - j))) fun i hi => if_pos (by omega)
          have hconv := run_convert_bytes_back (P := Tryd.prog) wr 62 9 5 ⟨w.heap.size, 0, none⟩ s.size s.data.toList.reverse Tryd.underlying62 Tryd.underlying5 Tryd.underlying9 (fun j hj => by
            have hj' : j < s.size := by simpa using hj
            rw [Addr.add_lit, Nat.zero_add, hbyt.cell j hj']
            congr 3
            simp only [byteAt, List.getElem_reverse]
            rw [List.getD_eq_getElem?_getD, List.getElem?_eq_getElem (by simp; omega)]
            simp)
          have hl : s.data.toList.reverse.length = s.size := by simp
          rw [hl] at hconv
          clear hl
          have HI := hide (And.intro hrow' (And.intro hbox hbel))
          clear hrow hrow' hbox hbel hbyt
          go_wp2_with fail
          go_ret
          obtain ⟨h1, h2, h3⟩ := HI.out
          have h2' : Blk (wr.setCell ⟨w.heap.size + 1 + 1, 0, none⟩ (.string ⟨s.data.toList.reverse.toArray⟩)) (w.heap.size + 1 + 1) 64 #[.string ⟨s.data.toList.reverse.toArray⟩, .slice (some ⟨w.heap.size + 1, 0, none⟩) (s.size + 1) (s.size + 1)] :=
            heap_setCell_same wr _ 0 _ _ _ h2
          have hsz : (⟨s.data.toList.reverse.toArray⟩ : ByteArray).size = s.size := size_rev s
          rw [← hsz] at h2'
          have hrow2 : MarkRow (wr.setCell ⟨w.heap.size + 1 + 1, 0, none⟩ (.string ⟨s.data.toList.reverse.toArray⟩)) (w.heap.size + 1) (⟨s.data.toList.reverse.toArray⟩ : ByteArray).size (fun j => turnMark (Sc.mark ⟨s, ms⟩ (s.size - j))) := by
            rw [hsz]
            exact h1.far (by simp) _
          obtain ⟨y, k1, k2, k3⟩ := scn_of_row h2' hrow2 (fun i => (turnMark_bits _ (H.out.small _)).2.2) (by rw [hsz]; exact hs)
          rw [hsz] at k3
          refine ⟨_, _, y, rfl, k1, ⟨?_, fun i hi => ?_, fun i hi => ?_, fun i hi => ?_⟩, h3.setCell (show w.heap.size ≤ w.heap.size + 1 + 1 by omega) _⟩
          · simp only [Sc.len, k2]; exact hsz
          · have hi' : i < s.size := hi
            have hl : i < s.data.toList.length := by simpa using hi'
            rw [k2]
            simp only [Sc.len, List.toList_toArray, List.getD_eq_getElem?_getD]
            rw [List.getElem?_reverse hl]
            simp
          · have hi' : i ≤ s.size := hi
            rw [k3 i hi']
            exact (turnMark_bits _ (H.out.small _)).1
          · have hi' : i ≤ s.size := hi
            rw [k3 i hi']
            exact (turnMark_bits _ (H.out.small _)).2.1
end Go.Proofs.YtkghlebfmggidaaDoor
