/- Scene: The scene: a subject with the marks of its places.
SceneNew: scene.New: the scene of a subject, its marks told. -/
import Derived.Test.YtkghlebfmggidaaDoorProg
import Derived.Test.YtkghlebfmggidaaDoorPlaces
import Derived.Test.YtkghlebfmggidaaDoorMem
import Derived.Outline
import Derived.Deep.DeepCutAuto
import Derived.Laws.BitsAllLaws
set_option linter.unusedSimpArgs false
set_option linter.unusedVariables false
set_option linter.unnecessarySimpa false

/-! ## Scene -/
namespace Go.Proofs.YtkghlebfmggidaaDoor
open Go.RowKit

/-- The scene x lies in block b, its marks in block m. -/
structure Scn (w : World) (b m : Nat) (x : Sc) : Prop where
  box : Blk w b 64 #[.string x.text, .slice (some ⟨m, 0, none⟩) (x.len + 1) (x.len + 1)]
  row : Blk w m 5 (x.marks.map fun n : Nat => Value.int .u8 (n : Int)).toArray
  count : x.marks.length = x.len + 1
  small : ∀ i, x.mark i < 4
  fits : x.len ≤ 9223372036854775000

section
variable {w w' : World} {b m : Nat} {x : Sc}
theorem Scn.same {ok : Nat → Prop} (h : Scn w b m x) (hs : Same ok w w') (hb : ok b) (hm : ok m) : Scn w' b m x := ⟨h.box.same hs hb, h.row.same hs hm, h.count, h.small, h.fits⟩
theorem Scn.below (h : Scn w b m x) (hb : Below w.heap.size w w') : Scn w' b m x := h.same (same_of_below hb) h.box.lt h.row.lt
theorem Scn.text (h : Scn w b m x) : w.cell? ⟨b, 0, none⟩ = some (.string x.text) := h.box.cell 0
theorem Scn.list (h : Scn w b m x) : w.cell? ⟨b, 1, none⟩ = some (.slice (some ⟨m, 0, none⟩) (x.len + 1) (x.len + 1)) := h.box.cell 1
theorem Scn.at_ (h : Scn w b m x) (i : Nat) (hi : i ≤ x.len) : w.cell? ⟨m, i, none⟩ = some (.int .u8 (x.mark i)) := by
  rw [h.row.cell]
  have hc := h.count
  have hl : i < x.marks.length := by omega
  simp [Sc.mark, hl]
end

theorem slen_any {w : World} {b m : Nat} {x : Sc} (h : Scn w b m x) : Calls Tryd.prog 39 #[.pointer (some ⟨b, 0, none⟩)] w fun e w' => e = .returned (.int .i64 x.len) ∧ w = w' := by
  have h1 := h.text
  have h2 := h.fits
  unfold Sc.len at *
  go_enter Tryd.func39, Tryd.ntmps39
  go_wp2_with fail
  go_ret
  exact ⟨rfl, rfl⟩

theorem byte_in {w : World} {b m : Nat} {x : Sc} (h : Scn w b m x) (i : Nat) (hi : i < x.len) : Calls Tryd.prog 46 #[.pointer (some ⟨b, 0, none⟩), .int .i64 i] w fun e w' =>
    e = .returned (.tuple #[.int .u8 (x.text.data.toList.getD i 0).toNat, .bool true]) ∧ w = w' := by
  have h1 := h.text
  have h2 := h.fits
  have e : x.text.data.toList.getD i 0 = x.text[i]'hi := by
    have : i < x.text.data.toList.length := by simpa [Sc.len] using hi
    rw [List.getD_eq_getElem?_getD, List.getElem?_eq_getElem this]
    rfl
  rw [e]
  clear e
  unfold Sc.len at *
  go_enter Tryd.func46, Tryd.ntmps46
  go_wp2_with fail
  go_ret2
  exact ⟨rfl, rfl⟩

theorem byte_out {w : World} {b m : Nat} {x : Sc} (h : Scn w b m x) (i : Int) (hi : i < 0 ∨ (x.len : Int) ≤ i) (h64 : IsI64 i) : Calls Tryd.prog 46 #[.pointer (some ⟨b, 0, none⟩), .int .i64 i] w fun e w' =>
    e = .returned (.tuple #[.int .u8 0, .bool false]) ∧ w = w' := by
  have h1 := h.text
  have h2 := h.fits
  unfold Sc.len at *
  by_cases hn : i < 0
  · go_enter Tryd.func46, Tryd.ntmps46
    go_wp2_with fail
    go_ret2
    exact ⟨rfl, rfl⟩
  · have hp : ¬ i < (x.text.size : Int) := by omega
    go_enter Tryd.func46, Tryd.ntmps46
    go_wp2_with fail
    go_ret2
    exact ⟨rfl, rfl⟩

theorem marks_in {w : World} {b m : Nat} {x : Sc} (h : Scn w b m x) (i : Nat) (hi : i ≤ x.len) : Calls Tryd.prog 48 #[.pointer (some ⟨b, 0, none⟩), .int .i64 i] w fun e w' =>
    e = .returned (.int .i64 (x.mark i)) ∧ w = w' := by
  have h1 := h.list
  have h2 := h.fits
  have h3 := h.at_ i hi
  have h4 := h.small i
  unfold Sc.len at *
  go_enter Tryd.func48, Tryd.ntmps48
  go_wp2_with fail
  go_ret
  exact ⟨rfl, rfl⟩
end Go.Proofs.YtkghlebfmggidaaDoor

/-! ## SceneNew -/
namespace Go.Proofs.YtkghlebfmggidaaDoor
open Go.RowKit

theorem Tryd.infoU8 : (Tryd.prog.info? 5).map (fun i => (i.zero, i.size, i.bytes)) = some (some (.int .u8 0), 1, 1) := by kernel_rfl

def byteAt (s : ByteArray) (i : Nat) : Nat := (s.data.toList.getD i 0).toNat

/-- The mark of place i, when the first k bytes have been looked at. -/
def markOf (s : ByteArray) (nb ne nl : Bool) (k i : Nat) : Nat :=
  (if (i = 0 ∧ nb = true) ∨ (0 < i ∧ i ≤ k ∧ nl = true ∧ byteAt s (i - 1) = 10) then 1 else 0) + (if (i = s.size ∧ ne = true) ∨ (i < k ∧ nl = true ∧ byteAt s i = 10) then 2 else 0)

theorem markOf_lt (s : ByteArray) (nb ne nl : Bool) (k i : Nat) : markOf s nb ne nl k i < 4 := by
  unfold markOf; split <;> split <;> omega

theorem markOf_zero (s : ByteArray) (nb ne nl : Bool) (i : Nat) : markOf s nb ne nl 0 i = (if i = 0 ∧ nb = true then 1 else 0) + (if i = s.size ∧ ne = true then 2 else 0) := by
  have e1 : ((i = 0 ∧ nb = true) ∨ (0 < i ∧ i ≤ 0 ∧ nl = true ∧ byteAt s (i - 1) = 10)) ↔ (i = 0 ∧ nb = true) := ⟨fun h => h.elim id (fun h => by omega), Or.inl⟩
  have e2 : ((i = s.size ∧ ne = true) ∨ (i < 0 ∧ nl = true ∧ byteAt s i = 10)) ↔ (i = s.size ∧ ne = true) := ⟨fun h => h.elim id (fun h => by omega), Or.inl⟩
  simp only [markOf, e1, e2]
theorem markOf_off (s : ByteArray) (nb ne : Bool) (k i : Nat) : markOf s nb ne false k i = markOf s nb ne false 0 i := by
  simp [markOf]
theorem markOf_here (s : ByteArray) (nb ne nl : Bool) (k : Nat) (h : k < s.size) : markOf s nb ne nl k k < 2 := by
  have e2 : ¬ ((k = s.size ∧ ne = true) ∨ (k < k ∧ nl = true ∧ byteAt s k = 10)) := by omega
  unfold markOf
  rw [if_neg e2]
  split <;> omega
theorem markOf_next (s : ByteArray) (nb ne nl : Bool) (k : Nat) : markOf s nb ne nl k (k + 1) = 0 ∨ markOf s nb ne nl k (k + 1) = 2 := by
  have e1 : ¬ ((k + 1 = 0 ∧ nb = true) ∨ (0 < k + 1 ∧ k + 1 ≤ k ∧ nl = true ∧ byteAt s (k + 1 - 1) = 10)) := by omega
  unfold markOf
  rw [if_neg e1]
  split <;> omega
theorem markOf_other (s : ByteArray) (nb ne nl : Bool) (k i : Nat) (h : ¬ byteAt s k = 10 ∨ (i ≠ k ∧ i ≠ k + 1)) : markOf s nb ne nl (k + 1) i = markOf s nb ne nl k i := by
  have e1 : (0 < i ∧ i ≤ k + 1 ∧ nl = true ∧ byteAt s (i - 1) = 10) ↔ (0 < i ∧ i ≤ k ∧ nl = true ∧ byteAt s (i - 1) = 10) := by
    constructor
    · rintro ⟨h1, h2, h3, h4⟩
      refine ⟨h1, ?_, h3, h4⟩
      by_cases hi : i = k + 1
      · subst hi
        rcases h with h | h
        · exact absurd h4 h
        · omega
      · omega
    · rintro ⟨h1, h2, h3, h4⟩; exact ⟨h1, by omega, h3, h4⟩
  have e2 : (i < k + 1 ∧ nl = true ∧ byteAt s i = 10) ↔ (i < k ∧ nl = true ∧ byteAt s i = 10) := by
    constructor
    · rintro ⟨h2, h3, h4⟩
      refine ⟨?_, h3, h4⟩
      by_cases hi : i = k
      · subst hi
        rcases h with h | h
        · exact absurd h4 h
        · omega
      · omega
    · rintro ⟨h2, h3, h4⟩; exact ⟨by omega, h3, h4⟩
  simp only [markOf, e1, e2]
theorem markOf_nl (s : ByteArray) (nb ne nl : Bool) (hnl : nl = true) (k : Nat) (h : k < s.size) (h10 : byteAt s k = 10) :
    markOf s nb ne nl (k + 1) k = markOf s nb ne nl k k + 2 ∧ markOf s nb ne nl (k + 1) (k + 1) = markOf s nb ne nl k (k + 1) + 1 := by
  constructor
  · have e1 : (0 < k ∧ k ≤ k + 1 ∧ nl = true ∧ byteAt s (k - 1) = 10) ↔ (0 < k ∧ k ≤ k ∧ nl = true ∧ byteAt s (k - 1) = 10) := by
      constructor
      · rintro ⟨a, _, c⟩; exact ⟨a, Nat.le_refl _, c⟩
      · rintro ⟨a, _, c⟩; exact ⟨a, by omega, c⟩
    have e2 : (k = s.size ∧ ne = true) ∨ (k < k + 1 ∧ nl = true ∧ byteAt s k = 10) := .inr ⟨by omega, hnl, h10⟩
    have e3 : ¬ ((k = s.size ∧ ne = true) ∨ (k < k ∧ nl = true ∧ byteAt s k = 10)) := by omega
    simp only [markOf, e1]
    rw [if_pos e2, if_neg e3]
  · have e1 : (k + 1 = 0 ∧ nb = true) ∨ (0 < k + 1 ∧ k + 1 ≤ k + 1 ∧ nl = true ∧ byteAt s (k + 1 - 1) = 10) := .inr ⟨by omega, by omega, hnl, h10⟩
    have e2 : ¬ ((k + 1 = 0 ∧ nb = true) ∨ (0 < k + 1 ∧ k + 1 ≤ k ∧ nl = true ∧ byteAt s (k + 1 - 1) = 10)) := by omega
    have e3 : (k + 1 < k + 1 ∧ nl = true ∧ byteAt s (k + 1) = 10) ↔ (k + 1 < k ∧ nl = true ∧ byteAt s (k + 1) = 10) := by
      constructor
      · intro h; omega
      · intro h; omega
    simp only [markOf, e3]
    rw [if_pos e1, if_neg e2]
    omega

theorem or_one_u8 (v : Nat) (h : v < 4) : bits .or .u8 (v : Int) 1 = ((v ||| 1 : Nat) : Int) := by
  have := u8_or_nat v 1 (by omega) (by decide)
  simpa using this
theorem or_two_u8 (v : Nat) (h : v < 4) : bits .or .u8 (v : Int) 2 = ((v ||| 2 : Nat) : Int) := by
  have := u8_or_nat v 2 (by omega) (by decide)
  simpa using this

/-- Block m holds n + 1 marks, f tells them. -/
def MarkRow (w : World) (m n : Nat) (f : Nat → Nat) : Prop := ∃ row : Array Value, Blk w m 5 row ∧ row.size = n + 1 ∧ ∀ i, i ≤ n → row[i]? = some (.int .u8 ((f i : Nat) : Int))

section
variable {w w' : World} {m n : Nat} {f : Nat → Nat}
theorem MarkRow.cell (h : MarkRow w m n f) (i : Nat) (hi : i ≤ n) : w.cell? ⟨m, i, none⟩ = some (.int .u8 ((f i : Nat) : Int)) := by
  obtain ⟨row, h1, _, h3⟩ := h
  rw [h1.cell, h3 i hi]
theorem MarkRow.frozen (h : MarkRow w m n f) (i : Nat) : w.frozen? ⟨m, i, none⟩ = false := by
  obtain ⟨row, h1, _, _⟩ := h
  exact h1.frozen i
theorem MarkRow.lt (h : MarkRow w m n f) : m < w.heap.size := by obtain ⟨row, h1, _⟩ := h; exact h1.lt
theorem MarkRow.same {ok : Nat → Prop} (h : MarkRow w m n f) (hs : Same ok w w') (hm : ok m) : MarkRow w' m n f := by
  obtain ⟨row, h1, h2⟩ := h
  exact ⟨row, h1.same hs hm, h2⟩
theorem MarkRow.set (h : MarkRow w m n f) (i v : Nat) (hi : i ≤ n) : MarkRow (w.setCell ⟨m, i, none⟩ (.int .u8 (v : Int))) m n (fun j => if j = i then v else f j) := by
  obtain ⟨row, h1, h2, h3⟩ := h
  refine ⟨row.setIfInBounds i (.int .u8 (v : Int)), heap_setCell_same w m i row _ _ h1, by simp [h2], fun j hj => ?_⟩
  by_cases hij : i = j
  · subst hij; simp [show i < row.size by omega]
  · rw [Array.getElem?_setIfInBounds_ne hij, h3 j hj]
    simp [show ¬ j = i from fun e => hij e.symm]
theorem MarkRow.congr {g : Nat → Nat} (h : MarkRow w m n f) (e : ∀ i, i ≤ n → f i = g i) : MarkRow w m n g := by
  obtain ⟨row, h1, h2, h3⟩ := h
  exact ⟨row, h1, h2, fun i hi => by rw [h3 i hi, e i hi]⟩
end

/-- A new scene was returned. -/
def NewScn (s : ByteArray) (nb ne nl : Bool) (w : World) (e : Ending) (w' : World) : Prop :=
  ∃ b m x, e = .returned (.pointer (some ⟨b, 0, none⟩)) ∧ Scn w' b m x ∧ x.text = s ∧ (∀ i, i ≤ s.size → x.mark i = markOf s nb ne nl s.size i) ∧ w.heap.size ≤ b ∧ w.heap.size ≤ m ∧ Below w.heap.size w w'

theorem scn_of_row {w : World} {b m : Nat} {s : ByteArray} {f : Nat → Nat} (hb : Blk w b 64 #[.string s, .slice (some ⟨m, 0, none⟩) (s.size + 1) (s.size + 1)]) (hm : MarkRow w m s.size f) (hf : ∀ i, f i < 4) (hs : s.size ≤ 140737488355328) :
    ∃ x : Sc, Scn w b m x ∧ x.text = s ∧ ∀ i, i ≤ s.size → x.mark i = f i := by
  refine ⟨⟨s, (List.range (s.size + 1)).map f⟩, ⟨hb, ?_, by simp [Sc.len], fun i => ?_, by simp only [Sc.len]; omega⟩, rfl, fun i hi => ?_⟩
  · obtain ⟨row, h1, h2, h3⟩ := hm
    have : row = (((List.range (s.size + 1)).map f).map fun n : Nat => Value.int .u8 (n : Int)).toArray := by
      refine Array.ext_getElem? fun i => ?_
      by_cases hi : i ≤ s.size
      · rw [h3 i hi]
        simp [show i < s.size + 1 by omega]
      · rw [Array.getElem?_eq_none (by omega), List.getElem?_toArray, List.getElem?_eq_none (by simp; omega)]
    rw [← this]
    exact h1
  · simp only [Sc.mark, List.getD_eq_getElem?_getD, List.getElem?_map]
    by_cases hi : i < s.size + 1
    · rw [List.getElem?_range hi]; exact hf i
    · rw [List.getElem?_eq_none (by simp; omega)]; simp
  · simp only [Sc.mark, List.getD_eq_getElem?_getD, List.getElem?_map]
    rw [List.getElem?_range (by omega)]
    rfl

theorem new_done {s : ByteArray} {nb ne nl : Bool} {w wr : World} {m b k : Nat} (hrow : MarkRow wr m s.size (markOf s nb ne nl k)) (hbox : Blk wr b 64 #[.string s, .slice (some ⟨m, 0, none⟩) (s.size + 1) (s.size + 1)]) (hbel : Below m w wr)
    (hk : ∀ i, markOf s nb ne nl k i = markOf s nb ne nl s.size i) (hs : s.size ≤ 140737488355328) (hm : w.heap.size = m) (hb : m + 1 = b) : NewScn s nb ne nl w (.returned (.pointer (some ⟨b, 0, none⟩))) wr := by
  obtain ⟨x, h1, h2, h3⟩ := scn_of_row hbox hrow (markOf_lt _ _ _ _ _) hs
  subst hm; subst hb
  exact ⟨_, _, x, rfl, h1, h2, fun i hi => by rw [h3 i hi, hk], by omega, Nat.le_refl _, hbel⟩

set_option maxRecDepth 100000 in
set_option maxHeartbeats 2000000 in
theorem new_any (s : ByteArray) (c e : Int) (w : World) (hs : s.size ≤ 140737488355328) :
    Calls Tryd.prog 13 #[.string s, .int .i64 c, .int .i64 e] w (NewScn s (bits .and .i64 e 1 == 0) (bits .and .i64 e 2 == 0) (bits .and .i64 c 4 != 0) w) := by
  obtain ⟨i0, hi, hz0, hz1, hz2⟩ := info_parts Tryd.infoU8
  have hmk := fun W => run_make_rowN (P := Tryd.prog) 62 5 i0 _ Tryd.underlying62 hi hz0 .i64 .i64 (s.size + 1) (s.size + 1) (Nat.le_refl _) (by rw [hz2]; omega) (by omega) W
  rw [hz1] at hmk
  have hcast : ((s.size + 1 : Nat) : Int) = (s.size : Int) + 1 := by omega
  simp only [hcast] at hmk
  clear hi hz0 hz1 hz2 hcast
  generalize hnb : (bits .and .i64 e 1 == 0) = nb
  generalize hne : (bits .and .i64 e 2 == 0) = ne
  generalize hnl : (bits .and .i64 c 4 != 0) = nl
  go_enter Tryd.func13, Tryd.ntmps13
  go_upto_region 2 with fail
  have hrow : MarkRow ((w.alloc (.cells (madeCells #[.int .u8 0] (s.size + 1)) 5)).alloc (.cells #[.string s, .slice (some ⟨w.heap.size, 0, none⟩) (s.size + 1) (s.size + 1)] 64)) w.heap.size s.size (fun _ => 0) := by
    refine ⟨_, (Blk.new w _ _).alloc _, by simp [madeCells], fun i hi => ?_⟩
    simp [madeCells, show i < s.size + 1 by omega, Nat.mod_one]
  have hbox := Blk.new (w.alloc (.cells (madeCells #[.int .u8 0] (s.size + 1)) 5)) 64 #[.string s, .slice (some ⟨w.heap.size, 0, none⟩) (s.size + 1) (s.size + 1)]
  rw [World.size_alloc] at hbox
  have hbel := ((Below.refl w.heap.size w).alloc (Nat.le_refl _) (.cells (madeCells #[.int .u8 0] (s.size + 1)) 5)).alloc (by simp) (.cells #[.string s, .slice (some ⟨w.heap.size, 0, none⟩) (s.size + 1) (s.size + 1)] 64)
  generalize ((w.alloc (.cells (madeCells #[.int .u8 0] (s.size + 1)) 5)).alloc (.cells #[.string s, .slice (some ⟨w.heap.size, 0, none⟩) (s.size + 1) (s.size + 1)] 64)) = W at *
  clear hmk
  generalize hm : w.heap.size = m at *
  generalize hb : m + 1 = b at *
  have hmb : m ≠ b := by omega
  have H0 := hide (And.intro hm hb)
  clear hm hb
  have bc := hbox.cell
  have bf := hbox.frozen
  have r0 := hrow.cell 0 (Nat.zero_le _)
  have rf := hrow.frozen
  have HI := hide (And.intro hrow (And.intro hbox hbel))
  clear hrow hbox hbel
  go_upto_if 18 with fail
  go_cut [] (fun wx => MarkRow wx m s.size (fun i => if i = 0 ∧ nb = true then 1 else 0) ∧ Blk wx b 64 #[.string s, .slice (some ⟨m, 0, none⟩) (s.size + 1) (s.size + 1)] ∧ Below m w wx)
  case first =>
    cases nb with
    | true =>
      go_wp2_with fail
      go_meet
      case rel =>
        obtain ⟨h1, h2, h3⟩ := HI.out
        refine ⟨?_, h2.far (by simp; omega) _, h3.setCell (by simp) _⟩
        refine (h1.set 0 1 (Nat.zero_le _)).congr fun i hi => ?_
        by_cases h0 : i = 0 <;> simp [h0]
    | false =>
      go_wp2_with fail
      go_meet
      case rel =>
        obtain ⟨h1, h2, h3⟩ := HI.out
        exact ⟨h1.congr fun i hi => by simp, h2, h3⟩
  case rest =>
    clear HI bc bf r0 rf
    obtain ⟨hrow, hbox, hbel⟩ := hcut
    obtain ⟨v0, hv0⟩ : ∃ v0, v0 = (if s.size = 0 ∧ nb = true then 1 else 0) := ⟨_, rfl⟩
    have hv2 : v0 < 2 := by rw [hv0]; split <;> omega
    have bc := hbox.cell
    have bf := hbox.frozen
    have r0 := hrow.cell s.size (Nat.le_refl _)
    rw [← hv0] at r0
    have rf := hrow.frozen
    have HI := hide (And.intro hrow (And.intro hbox (And.intro hbel hv0)))
    clear hrow hbox hbel hv0
    go_upto_if 29 with fail
    go_cut [] (fun wx => MarkRow wx m s.size (markOf s nb ne nl 0) ∧ Blk wx b 64 #[.string s, .slice (some ⟨m, 0, none⟩) (s.size + 1) (s.size + 1)] ∧ Below m w wx)
    case first =>
      cases ne with
      | true =>
        go_wp2_with fail
        go_meet
        case rel =>
          obtain ⟨h1, h2, h3, h4⟩ := HI.out
          refine ⟨?_, h2.far (by simp; omega) _, h3.setCell (by simp) _⟩
          rw [or_two_u8 v0 (by omega)]
          refine (h1.set s.size (v0 ||| 2) (Nat.le_refl _)).congr fun i hi => ?_
          rw [markOf_zero]
          by_cases h0 : i = s.size
          · subst h0
            have : v0 ||| 2 = v0 + 2 := by
              have : v0 = 0 ∨ v0 = 1 := by omega
              rcases this with e | e <;> rw [e] <;> rfl
            show (if s.size = s.size then v0 ||| 2 else _) = _
            rw [if_pos rfl, ← h4, if_pos ⟨rfl, rfl⟩, this]
          · simp [h0]
      | false =>
        go_wp2_with fail
        go_meet
        case rel =>
          obtain ⟨h1, h2, h3, _⟩ := HI.out
          exact ⟨h1.congr fun i hi => by rw [markOf_zero]; simp, h2, h3⟩
    case rest =>
      clear HI bc bf r0 rf hv2
      obtain ⟨hrow, hbox, hbel⟩ := hcut
      have HI := hide (And.intro hrow (And.intro hbox hbel))
      clear hrow hbox hbel
      have hcl := hide hnl
      clear hnl hne hnb
      go_wp2_with fail
      go_loopw [8] (fun iv wr => ∃ k : Nat, iv = .int .i64 k ∧ k ≤ s.size ∧ (nl = true ∨ k = 0) ∧ MarkRow wr m s.size (markOf s nb ne nl k) ∧ Blk wr b 64 #[.string s, .slice (some ⟨m, 0, none⟩) (s.size + 1) (s.size + 1)] ∧ Below m w wr) (fun iv _ => s.size - (intOf iv).toNat)
      case atStart => exact ⟨0, rfl, Nat.zero_le _, .inr rfl, HI.out.1, HI.out.2.1, HI.out.2.2⟩
      case round =>
        obtain ⟨k, rfl, hk, hor, hrow, hbox, hbel⟩ := hrel
        have bc := hbox.cell
        have bf := hbox.frozen
        have rf := hrow.frozen
        by_cases hlt : k < s.size
        · cases nl with
          | false =>
            have HJ := hide (And.intro hrow (And.intro hbox hbel))
            have hk0 : k = 0 := by simpa using hor
            have HK := hide hk0
            clear hrow hbox hbel hor hk0
            have g1 : decide ((k : Int) < (s.size : Int)) = true := decide_eq_true (by omega)
            have hq := hcl.out
            go_wp2_with fail
            obtain ⟨h1, h2, h3⟩ := HJ.out
            go_ret
            exact new_done h1 h2 h3 (fun i => by rw [HK.out, ← markOf_off]) hs H0.out.1 H0.out.2
          | true =>
            have hk1 := markOf_here s nb ne true k hlt
            have hk2 := markOf_next s nb ne true k
            have r0 := hrow.cell k hk
            have r1 := hrow.cell (k + 1) hlt
            have hby : byteAt s k = s[k].toNat := by
              have : k < s.data.toList.length := by simpa using hlt
              simp only [byteAt, List.getD_eq_getElem?_getD, List.getElem?_eq_getElem this]
              rfl
            have hb256 := s[k].toNat_lt
            obtain ⟨f0, hf0⟩ : ∃ v, v = markOf s nb ne true k k := ⟨_, rfl⟩
            obtain ⟨f1, hf1⟩ : ∃ v, v = markOf s nb ne true k (k + 1) := ⟨_, rfl⟩
            rw [← hf0] at r0 hk1
            rw [← hf1] at r1 hk2
            have HJ := hide (And.intro hrow (And.intro hbox (And.intro hbel (And.intro hf0 (And.intro hf1 (And.intro hk2 hby))))))
            clear hrow hbox hbel hor hf0 hf1 hk2 hby
            have g1 : decide ((k : Int) < (s.size : Int)) = true := decide_eq_true (by omega)
            have hq := hcl.out
            have hat : (0 : Int) ≤ k ∧ (k : Int) < s.size := by omega
            by_cases h10 : s[k].toNat = 10
            · have g2 : ((s[k].toNat : Int) == 10) = true := by rw [h10]; rfl
              have HT := hide h10
              clear h10
              go_wp2_with fail
              go_roundw
              case rel =>
                obtain ⟨h1, h2, h3, h4, h5, h6, h7⟩ := HJ.out
                have e0 : f0 ||| 2 = f0 + 2 := by
                  have : f0 = 0 ∨ f0 = 1 := by omega
                  rcases this with e | e <;> rw [e] <;> rfl
                have e1 : f1 ||| 1 = f1 + 1 := by rcases h6 with e | e <;> rw [e] <;> rfl
                obtain ⟨n1, n2⟩ := markOf_nl s nb ne true rfl k hlt (by rw [h7]; exact HT.out)
                rw [or_two_u8 f0 (by omega), or_one_u8 f1 (by omega)]
                refine ⟨k + 1, by go_num, hlt, .inl trivial, ((h1.set k (f0 ||| 2) hk).set (k + 1) (f1 ||| 1) hlt).congr fun i hi => ?_, (h2.far (by simp; omega) _).far (by simp; omega) _, (h3.setCell (by simp) _).setCell (by simp) _⟩
                by_cases hi1 : i = k + 1
                · subst hi1
                  show (if k + 1 = k + 1 then f1 ||| 1 else _) = _
                  rw [if_pos rfl, n2, e1, h5]
                · by_cases hi0 : i = k
                  · subst hi0
                    show (if i = i + 1 then _ else if i = i then f0 ||| 2 else _) = _
                    rw [if_neg (by omega), if_pos rfl, n1, e0, h4]
                  · show (if i = k + 1 then _ else if i = k then _ else markOf s nb ne true k i) = _
                    rw [if_neg hi1, if_neg hi0, markOf_other s nb ne true k i (.inr ⟨hi0, hi1⟩)]
              case measure => simp [intOf]; omega
            · have g2 : ((s[k].toNat : Int) == 10) = false := by
                have : ¬ ((s[k].toNat : Int) = 10) := by omega
                simpa using this
              go_wp2_with fail
              go_roundw
              case rel =>
                obtain ⟨h1, h2, h3, _, _, _, h7⟩ := HJ.out
                exact ⟨k + 1, by go_num, hlt, .inl trivial, h1.congr fun i hi => (markOf_other s nb ne true k i (.inl (by omega))).symm, h2, h3⟩
              case measure => simp [intOf]; omega
        · obtain rfl : k = s.size := by omega
          have HJ := hide (And.intro hrow (And.intro hbox hbel))
          clear hrow hbox hbel hor
          go_wp2_with fail
          obtain ⟨h1, h2, h3⟩ := HJ.out
          go_ret
          exact new_done h1 h2 h3 (fun i => rfl) hs H0.out.1 H0.out.2
end Go.Proofs.YtkghlebfmggidaaDoor
