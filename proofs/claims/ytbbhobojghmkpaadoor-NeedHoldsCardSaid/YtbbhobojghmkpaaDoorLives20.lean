/- Lives20: trawllaw20.lives: its fixed facts. (Printed by gen_lives20.py.)
LongN: trawllaw20.long: what takes longer is left out. -/
import Derived.Test.YtbbhobojghmkpaaDoorNext20
import Derived.Test.YtbbhobojghmkpaaDoorSeq
import Derived.Laws.BitsAllLaws
import Derived.Test.YtbbhobojghmkpaaDoorRefAll
import Derived.Test.YtbbhobojghmkpaaDoorSames
set_option linter.unusedSimpArgs false
set_option linter.unusedVariables false
set_option linter.unnecessarySimpa false

/-! ## Text -/
namespace Go.Proofs.YtbbhobojghmkpaaDoor
open Go.RowKit

/-- The set of one byte, and its node. -/
def word (b i : Nat) : Int := if b / 64 = i then IntKind.u64.wrap (2 ^ (b % 64)) else 0
def T.byte (b : Nat) : T := .mk ⟨2, word b 0, word b 1, word b 2, word b 3, 0, 0, 0, false⟩ []
def T.texts (s : ByteArray) : List T := s.data.toList.map fun b => T.byte b.toNat

theorem and63 (b : UInt8) : bits .and .u8 (b.toNat : Int) 63 = ((b.toNat % 64 : Nat) : Int) := by
  have := u8_and_nat b.toNat 63 b.toNat_lt (by decide)
  rw [show ((63 : Nat) : Int) = 63 from rfl] at this
  rw [this, show 63 = 2 ^ 6 - 1 from rfl, Nat.and_two_pow_sub_one_eq_mod]

theorem shl_oneT (n : Nat) (hn : n < 64) : Op.shift .shl .u64 1 .u8 (n : Int) = pure (.int .u64 (IntKind.u64.wrap (2 ^ n))) := by
  unfold Op.shift
  rw [if_neg (by omega)]
  have h1 : min (n : Int).toNat 64 = n := by omega
  simp only [IntKind.bits, h1, Int.one_mul]

theorem T.byte_nodes (b : Nat) : (T.byte b).nodes = 1 := rfl

theorem T.byte_own (w : World) (b : Nat) : T.Own w (T.byte b) none [] := .inl ⟨rfl, rfl⟩

theorem T.texts_nodes (l : List UInt8) : TL.nodes (l.map fun b => T.byte b.toNat) = l.length := by
  induction l with
  | nil => rfl
  | cons a l ih => simp only [List.map_cons, TL.nodes, ih, List.length_cons, T.byte_nodes]; omega

set_option maxRecDepth 100000 in
set_option maxHeartbeats 2000000 in
theorem text_any (s : ByteArray) (w : World) (hs : s.size ≤ 100000) : Calls Tryd.prog 43 #[.string s] w (Fresh (T.seq (T.texts s)) w) := by
  go_enter Tryd.func43, Tryd.ntmps43
  go_wp2_with fail
  go_loopw [3, 4] (fun v kv wr => ∃ (k : Nat) (bs : List Nat), kv = .int .i64 k ∧ k ≤ s.size ∧ GrowT (w.heap.size + 1) wr v ((T.texts s).take k) bs ∧ Below w.heap.size w wr ∧ Blk wr w.heap.size 27 zeroCells) (fun _ kv _ => s.size - (intOf kv).toNat)
  case atStart => exact ⟨0, [], rfl, Nat.zero_le _, GrowT.nil _ _, (Below.refl _ _).alloc (Nat.le_refl _) _, Blk.new _ _ _⟩
  case round =>
    obtain ⟨k, bs, rfl, hk, hgrow, hbel, hb0⟩ := hrel
    have z0 := hb0.lt
    by_cases hlt : k < s.size
    · have hat : (0 : Int) ≤ k ∧ (k : Int) < s.size := by omega
      have hb256 := s[k].toNat_lt
      have hand := and63 s[k]
      have hshl := shl_oneT (s[k].toNat % 64) (by omega)
      have hq : (0 : Int) ≤ s[k].toNat / 64 ∧ (s[k].toNat : Int) / 64 < 4 := by omega
      have hq2 : ((s[k].toNat : Int) / 64).toNat = s[k].toNat / 64 := by omega
      go_wp2_with fail
      refine wp_region_mix (fun x => True) [10] (by kernel_rfl) (fun hcl => ?_)
      have hS := trivial
      refine wpAnyT_free (i := 0) hcl rfl (by kernel_rfl) (v := ?_) (fun _ _ _ h => h) hS (Or.inl ⟨rfl, fun w' _ => ?_⟩) (fun hcl => ?_)
      rotate_left
      · go_simp
        with_reducible rfl
      simp only [List.getElem_toArray, List.getElem_cons_zero, List.getElem_cons_succ, Act.put, List.setIfInBounds_toArray, List.set_cons_zero, List.set_cons_succ]
      refine wpAnyT_free (i := 1) hcl rfl (by kernel_rfl) (v := ?_) (fun _ _ _ h => h) hS (Or.inl ⟨rfl, fun w' _ => ?_⟩) (fun hcl => ?_)
      rotate_left
      · go_simp
        with_reducible rfl
      simp only [List.getElem_toArray, List.getElem_cons_zero, List.getElem_cons_succ, Act.put, List.setIfInBounds_toArray, List.set_cons_zero, List.set_cons_succ]
      refine wpAnyT_free (i := 2) hcl rfl (by kernel_rfl) (v := ?_) (fun _ _ _ h => h) hS (Or.inl ⟨rfl, fun w' _ => ?_⟩) (fun hcl => ?_)
      rotate_left
      · go_simp
        with_reducible rfl
      simp only [List.getElem_toArray, List.getElem_cons_zero, List.getElem_cons_succ, Act.put, List.setIfInBounds_toArray, List.set_cons_zero, List.set_cons_succ]
      refine wpAnyT_free (i := 3) hcl rfl (by kernel_rfl) (v := ?_) (fun _ _ _ h => h) hS (Or.inl ⟨rfl, fun w' _ => ?_⟩) (fun hcl => ?_)
      rotate_left
      · go_simp
        with_reducible rfl
      simp only [List.getElem_toArray, List.getElem_cons_zero, List.getElem_cons_succ, Act.put, List.setIfInBounds_toArray, List.set_cons_zero, List.set_cons_succ]
      refine wpAnyT_free (i := 4) hcl rfl (by kernel_rfl) (v := ?_) (fun _ _ _ h => h) hS (Or.inl ⟨rfl, fun w' _ => ?_⟩) (fun hcl => ?_)
      rotate_left
      · go_simp
        with_reducible rfl
      simp only [List.getElem_toArray, List.getElem_cons_zero, List.getElem_cons_succ, Act.put, List.setIfInBounds_toArray, List.set_cons_zero, List.set_cons_succ]
      refine wpAnyT_free (i := 5) hcl rfl (by kernel_rfl) (v := ?_) (fun _ _ _ h => h) hS (Or.inl ⟨rfl, fun w' _ => ?_⟩) (fun hcl => ?_)
      rotate_left
      · go_simp
        with_reducible rfl
      simp only [List.getElem_toArray, List.getElem_cons_zero, List.getElem_cons_succ, Act.put, List.setIfInBounds_toArray, List.set_cons_zero, List.set_cons_succ]
      refine wpAnyT_free (i := 6) hcl rfl (by kernel_rfl) (v := ?_) (fun _ _ _ h => h) hS (Or.inl ⟨rfl, fun w' _ => ?_⟩) (fun hcl => ?_)
      rotate_left
      · go_simp
        with_reducible rfl
      simp only [List.getElem_toArray, List.getElem_cons_zero, List.getElem_cons_succ, Act.put, List.setIfInBounds_toArray, List.set_cons_zero, List.set_cons_succ]
      refine wpAnyT_free (i := 7) hcl rfl (by kernel_rfl) (v := ?_) (fun _ _ _ h => h) hS (Or.inl ⟨rfl, fun w' _ => ?_⟩) (fun hcl => ?_)
      rotate_left
      · go_simp
        with_reducible rfl
      simp only [List.getElem_toArray, List.getElem_cons_zero, List.getElem_cons_succ, Act.put, List.setIfInBounds_toArray, List.set_cons_zero, List.set_cons_succ]
      refine wpAnyT_free (i := 8) hcl rfl (by kernel_rfl) (v := ?_) (fun _ _ _ h => h) hS (Or.inl ⟨rfl, fun w' _ => ?_⟩) (fun hcl => ?_)
      rotate_left
      · go_simp
        with_reducible rfl
      simp only [List.getElem_toArray, List.getElem_cons_zero, List.getElem_cons_succ, Act.put, List.setIfInBounds_toArray, List.set_cons_zero, List.set_cons_succ]
      refine wpAnyT_free (i := 9) hcl rfl (by kernel_rfl) (v := ?_) (fun _ _ _ h => h) hS (Or.inl ⟨rfl, fun w' _ => ?_⟩) (fun hcl => ?_)
      rotate_left
      · go_simp
        with_reducible rfl
      simp only [List.getElem_toArray, List.getElem_cons_zero, List.getElem_cons_succ, Act.put, List.setIfInBounds_toArray, List.set_cons_zero, List.set_cons_succ]
      refine wpAnyT_last (i := 10) hcl rfl (by kernel_rfl) (by kernel_rfl) (fun hcl => ?_)
      simp only [List.getElem_toArray, List.getElem_cons_zero, List.getElem_cons_succ, Act.put, List.setIfInBounds_toArray, List.set_cons_zero, List.set_cons_succ]
      obtain ⟨q, hq3⟩ : ∃ q, q = s[k].toNat / 64 := ⟨_, rfl⟩
      have hq4 : s[k].toNat / 64 = q := hq3.symm
      have hb := hide hq3
      have hqs : q = 0 ∨ q = 1 ∨ q = 2 ∨ q = 3 := by omega
      rw [hq4]
      clear hq4 hq3 hand hshl
      try clear hq
      try clear hq2
      have hsk : (T.texts s)[k]? = some (T.byte s[k].toNat) := by
        simp only [T.texts, List.getElem?_map]
        rw [Array.getElem?_toList, Array.getElem?_eq_getElem hlt]
        rfl
      have hsl : ((T.texts s).take k).length < 1000000 := by
        rw [List.length_take]; omega
      have HG := hide (And.intro hgrow (And.intro hbel (And.intro hb0 (And.intro hsk hsl))))
      clear hgrow hbel hb0 hsk hsl
      rcases hqs with h | h | h | h
      · subst h
        go_wp2_with fail
        refine wpAnyT_done (by kernel_rfl) ?_ _
        go_wp2_with fail
        refine (bytes_any (IntKind.u64.wrap (2 ^ (s[k].toNat % 64))) 0 0 0 _).mono ?_
        rintro e w1 ⟨rfl, hbel2⟩
        have hz2 := hbel2.size
        simp only [World.size_drew, World.size_alloc] at hz2
        have hbelA : Below wr.heap.size wr w1 := (((Below.refl _ _).alloc (Nat.le_refl _) _).drew).trans (hbel2.mono (by simp))
        clear hbel2
        obtain ⟨hgrow, hbel, hb0, hsk, hsl⟩ := HG.out
        have hgA := hide (fun X => (hgrow.below hbelA).below ((Below.refl _ _).alloc (Nat.le_refl _) X))
        have z0 := hbel.size
        have hbwr := hide hbelA
        clear hbelA hgrow hbel hb0 hsk
        go_wp2_with (at_builtin; refine wpList_append_node rfl _ _ rfl (w.heap.size + 1) _ ((T.texts s).take k) bs rfl (hgA.out _) (.mk ⟨2, (IntKind.u64.wrap (2 ^ (s[k].toNat % 64))), 0, 0, 0, 0, 0, 0, false⟩ []) none 0 w1.heap.size _ [] rfl (Blk.new _ _ _) (.inl ⟨rfl, rfl⟩) List.nodup_nil (by simp) hsl (by simp; omega) ?_)
        intro v' w2 hgrow2 hg2
        have hz3 := hg2.size
        rw [World.size_alloc] at hz3
        have hbelA := hbwr.out
        obtain ⟨hgrow, hbel, hb0, hsk, _⟩ := HG.out
        have hown : ∀ g, u3.ownBlock = some g → w.heap.size + 1 ≤ g ∧ g < wr.heap.size := by
          obtain ⟨xs, q1, _⟩ := hgrow
          exact q1.lt
        have hgrow2' : GrowT (w.heap.size + 1) w2 v' ((T.texts s).take (k + 1)) bs := by
          rw [show (T.texts s).take (k + 1) = (T.texts s).take k ++ [.mk ⟨2, (IntKind.u64.wrap (2 ^ (s[k].toNat % 64))), 0, 0, 0, 0, 0, 0, false⟩ []] from by
            rw [List.take_add_one, hsk]
            have := hb.out
            simp [T.byte, word, ← this]]
          exact hgrow2
        have hkeep : ∀ g, g < w.heap.size + 1 → w2.heap[g]? = wr.heap[g]? := fun g hx => by
          rw [hg2.block g (by simp; omega) (fun e => by have := (hown g e.symm).1; omega), Below.heap_alloc _ _ _ (by omega), hbelA.block g (by omega)]
        have hgoal : Below w.heap.size w w2 := ⟨(hg2.os.trans hbelA.os).trans hbel.os, (hg2.tape.trans hbelA.tape).trans hbel.tape, (hg2.output.trans hbelA.output).trans hbel.output, by omega, fun g hx => by rw [hkeep g (by omega), hbel.block g hx]⟩
        have hb0' : Blk w2 w.heap.size 27 zeroCells := (hkeep _ (by omega)).trans hb0
        have HG2 := hide (And.intro hgrow2' (And.intro hgoal hb0'))
        clear hgrow2' hgoal hown hgrow hbelA hgrow2 hg2 hkeep hb0 hb0' hbel hsk hgA
        go_wp2_with fail
        go_roundw
        case rel => exact ⟨k + 1, bs, by go_num, by omega, HG2.out⟩
        case measure => simp [intOf]; omega
      · subst h
        go_wp2_with fail
        refine wpAnyT_done (by kernel_rfl) ?_ _
        go_wp2_with fail
        refine (bytes_any 0 (IntKind.u64.wrap (2 ^ (s[k].toNat % 64))) 0 0 _).mono ?_
        rintro e w1 ⟨rfl, hbel2⟩
        have hz2 := hbel2.size
        simp only [World.size_drew, World.size_alloc] at hz2
        have hbelA : Below wr.heap.size wr w1 := (((Below.refl _ _).alloc (Nat.le_refl _) _).drew).trans (hbel2.mono (by simp))
        clear hbel2
        obtain ⟨hgrow, hbel, hb0, hsk, hsl⟩ := HG.out
        have hgA := hide (fun X => (hgrow.below hbelA).below ((Below.refl _ _).alloc (Nat.le_refl _) X))
        have z0 := hbel.size
        have hbwr := hide hbelA
        clear hbelA hgrow hbel hb0 hsk
        go_wp2_with (at_builtin; refine wpList_append_node rfl _ _ rfl (w.heap.size + 1) _ ((T.texts s).take k) bs rfl (hgA.out _) (.mk ⟨2, 0, (IntKind.u64.wrap (2 ^ (s[k].toNat % 64))), 0, 0, 0, 0, 0, false⟩ []) none 0 w1.heap.size _ [] rfl (Blk.new _ _ _) (.inl ⟨rfl, rfl⟩) List.nodup_nil (by simp) hsl (by simp; omega) ?_)
        intro v' w2 hgrow2 hg2
        have hz3 := hg2.size
        rw [World.size_alloc] at hz3
        have hbelA := hbwr.out
        obtain ⟨hgrow, hbel, hb0, hsk, _⟩ := HG.out
        have hown : ∀ g, u3.ownBlock = some g → w.heap.size + 1 ≤ g ∧ g < wr.heap.size := by
          obtain ⟨xs, q1, _⟩ := hgrow
          exact q1.lt
        have hgrow2' : GrowT (w.heap.size + 1) w2 v' ((T.texts s).take (k + 1)) bs := by
          rw [show (T.texts s).take (k + 1) = (T.texts s).take k ++ [.mk ⟨2, 0, (IntKind.u64.wrap (2 ^ (s[k].toNat % 64))), 0, 0, 0, 0, 0, false⟩ []] from by
            rw [List.take_add_one, hsk]
            have := hb.out
            simp [T.byte, word, ← this]]
          exact hgrow2
        have hkeep : ∀ g, g < w.heap.size + 1 → w2.heap[g]? = wr.heap[g]? := fun g hx => by
          rw [hg2.block g (by simp; omega) (fun e => by have := (hown g e.symm).1; omega), Below.heap_alloc _ _ _ (by omega), hbelA.block g (by omega)]
        have hgoal : Below w.heap.size w w2 := ⟨(hg2.os.trans hbelA.os).trans hbel.os, (hg2.tape.trans hbelA.tape).trans hbel.tape, (hg2.output.trans hbelA.output).trans hbel.output, by omega, fun g hx => by rw [hkeep g (by omega), hbel.block g hx]⟩
        have hb0' : Blk w2 w.heap.size 27 zeroCells := (hkeep _ (by omega)).trans hb0
        have HG2 := hide (And.intro hgrow2' (And.intro hgoal hb0'))
        clear hgrow2' hgoal hown hgrow hbelA hgrow2 hg2 hkeep hb0 hb0' hbel hsk hgA
        go_wp2_with fail
        go_roundw
        case rel => exact ⟨k + 1, bs, by go_num, by omega, HG2.out⟩
        case measure => simp [intOf]; omega
      · subst h
        go_wp2_with fail
        refine wpAnyT_done (by kernel_rfl) ?_ _
        go_wp2_with fail
        refine (bytes_any 0 0 (IntKind.u64.wrap (2 ^ (s[k].toNat % 64))) 0 _).mono ?_
        rintro e w1 ⟨rfl, hbel2⟩
        have hz2 := hbel2.size
        simp only [World.size_drew, World.size_alloc] at hz2
        have hbelA : Below wr.heap.size wr w1 := (((Below.refl _ _).alloc (Nat.le_refl _) _).drew).trans (hbel2.mono (by simp))
        clear hbel2
        obtain ⟨hgrow, hbel, hb0, hsk, hsl⟩ := HG.out
        have hgA := hide (fun X => (hgrow.below hbelA).below ((Below.refl _ _).alloc (Nat.le_refl _) X))
        have z0 := hbel.size
        have hbwr := hide hbelA
        clear hbelA hgrow hbel hb0 hsk
        go_wp2_with (at_builtin; refine wpList_append_node rfl _ _ rfl (w.heap.size + 1) _ ((T.texts s).take k) bs rfl (hgA.out _) (.mk ⟨2, 0, 0, (IntKind.u64.wrap (2 ^ (s[k].toNat % 64))), 0, 0, 0, 0, false⟩ []) none 0 w1.heap.size _ [] rfl (Blk.new _ _ _) (.inl ⟨rfl, rfl⟩) List.nodup_nil (by simp) hsl (by simp; omega) ?_)
        intro v' w2 hgrow2 hg2
        have hz3 := hg2.size
        rw [World.size_alloc] at hz3
        have hbelA := hbwr.out
        obtain ⟨hgrow, hbel, hb0, hsk, _⟩ := HG.out
        have hown : ∀ g, u3.ownBlock = some g → w.heap.size + 1 ≤ g ∧ g < wr.heap.size := by
          obtain ⟨xs, q1, _⟩ := hgrow
          exact q1.lt
        have hgrow2' : GrowT (w.heap.size + 1) w2 v' ((T.texts s).take (k + 1)) bs := by
          rw [show (T.texts s).take (k + 1) = (T.texts s).take k ++ [.mk ⟨2, 0, 0, (IntKind.u64.wrap (2 ^ (s[k].toNat % 64))), 0, 0, 0, 0, false⟩ []] from by
            rw [List.take_add_one, hsk]
            have := hb.out
            simp [T.byte, word, ← this]]
          exact hgrow2
        have hkeep : ∀ g, g < w.heap.size + 1 → w2.heap[g]? = wr.heap[g]? := fun g hx => by
          rw [hg2.block g (by simp; omega) (fun e => by have := (hown g e.symm).1; omega), Below.heap_alloc _ _ _ (by omega), hbelA.block g (by omega)]
        have hgoal : Below w.heap.size w w2 := ⟨(hg2.os.trans hbelA.os).trans hbel.os, (hg2.tape.trans hbelA.tape).trans hbel.tape, (hg2.output.trans hbelA.output).trans hbel.output, by omega, fun g hx => by rw [hkeep g (by omega), hbel.block g hx]⟩
        have hb0' : Blk w2 w.heap.size 27 zeroCells := (hkeep _ (by omega)).trans hb0
        have HG2 := hide (And.intro hgrow2' (And.intro hgoal hb0'))
        clear hgrow2' hgoal hown hgrow hbelA hgrow2 hg2 hkeep hb0 hb0' hbel hsk hgA
        go_wp2_with fail
        go_roundw
        case rel => exact ⟨k + 1, bs, by go_num, by omega, HG2.out⟩
        case measure => simp [intOf]; omega
      · subst h
        go_wp2_with fail
        refine wpAnyT_done (by kernel_rfl) ?_ _
        go_wp2_with fail
        refine (bytes_any 0 0 0 (IntKind.u64.wrap (2 ^ (s[k].toNat % 64))) _).mono ?_
        rintro e w1 ⟨rfl, hbel2⟩
        have hz2 := hbel2.size
        simp only [World.size_drew, World.size_alloc] at hz2
        have hbelA : Below wr.heap.size wr w1 := (((Below.refl _ _).alloc (Nat.le_refl _) _).drew).trans (hbel2.mono (by simp))
        clear hbel2
        obtain ⟨hgrow, hbel, hb0, hsk, hsl⟩ := HG.out
        have hgA := hide (fun X => (hgrow.below hbelA).below ((Below.refl _ _).alloc (Nat.le_refl _) X))
        have z0 := hbel.size
        have hbwr := hide hbelA
        clear hbelA hgrow hbel hb0 hsk
        go_wp2_with (at_builtin; refine wpList_append_node rfl _ _ rfl (w.heap.size + 1) _ ((T.texts s).take k) bs rfl (hgA.out _) (.mk ⟨2, 0, 0, 0, (IntKind.u64.wrap (2 ^ (s[k].toNat % 64))), 0, 0, 0, false⟩ []) none 0 w1.heap.size _ [] rfl (Blk.new _ _ _) (.inl ⟨rfl, rfl⟩) List.nodup_nil (by simp) hsl (by simp; omega) ?_)
        intro v' w2 hgrow2 hg2
        have hz3 := hg2.size
        rw [World.size_alloc] at hz3
        have hbelA := hbwr.out
        obtain ⟨hgrow, hbel, hb0, hsk, _⟩ := HG.out
        have hown : ∀ g, u3.ownBlock = some g → w.heap.size + 1 ≤ g ∧ g < wr.heap.size := by
          obtain ⟨xs, q1, _⟩ := hgrow
          exact q1.lt
        have hgrow2' : GrowT (w.heap.size + 1) w2 v' ((T.texts s).take (k + 1)) bs := by
          rw [show (T.texts s).take (k + 1) = (T.texts s).take k ++ [.mk ⟨2, 0, 0, 0, (IntKind.u64.wrap (2 ^ (s[k].toNat % 64))), 0, 0, 0, false⟩ []] from by
            rw [List.take_add_one, hsk]
            have := hb.out
            simp [T.byte, word, ← this]]
          exact hgrow2
        have hkeep : ∀ g, g < w.heap.size + 1 → w2.heap[g]? = wr.heap[g]? := fun g hx => by
          rw [hg2.block g (by simp; omega) (fun e => by have := (hown g e.symm).1; omega), Below.heap_alloc _ _ _ (by omega), hbelA.block g (by omega)]
        have hgoal : Below w.heap.size w w2 := ⟨(hg2.os.trans hbelA.os).trans hbel.os, (hg2.tape.trans hbelA.tape).trans hbel.tape, (hg2.output.trans hbelA.output).trans hbel.output, by omega, fun g hx => by rw [hkeep g (by omega), hbel.block g hx]⟩
        have hb0' : Blk w2 w.heap.size 27 zeroCells := (hkeep _ (by omega)).trans hb0
        have HG2 := hide (And.intro hgrow2' (And.intro hgoal hb0'))
        clear hgrow2' hgoal hown hgrow hbelA hgrow2 hg2 hkeep hb0 hb0' hbel hsk hgA
        go_wp2_with fail
        go_roundw
        case rel => exact ⟨k + 1, bs, by go_num, by omega, HG2.out⟩
        case measure => simp [intOf]; omega
    · have hke : k = s.size := by omega
      have hl : (T.texts s).length = s.size := by simp only [T.texts, List.length_map]; exact Array.length_toList
      rw [hke, ← hl, List.take_length] at hgrow
      obtain ⟨A, c, bs', rfl, hown, hnd, hfr⟩ := hgrow.own ⟨0, 0, 0, 0, 0, 0, 0, 0, false⟩
      have HS := hide (seq_any (T.texts s) A c wr (by unfold T.texts; rw [T.texts_nodes, Array.length_toList]; exact Nat.le_trans hs (by decide)) (T.In_iff.1 (hown.in_ fun b hb => (hfr b hb).2)))
      clear hown hgrow hfr hl
      go_wp2_with fail
      refine HS.out.mono ?_
      rintro e w1 ⟨B, c', bs2, rfl, hown, hnd2, hfr, hbel2⟩
      have hz2 := hbel2.size
      have hb1 : Blk w1 w.heap.size 27 zeroCells := hb0.below hbel2 z0
      have hbw := hbel.trans (hbel2.mono hbel.size)
      go_wp2_with (refine wpList_store_row rfl _ _ _ rfl w.heap.size 0 _ _ _ rfl rfl hb1 Tryd.sizeNode (by simp [zeroCells, Hd.cells_length]) (fun u hu => cells_one (T.seq (T.texts s)).hd B (T.seq (T.texts s)).subs.length c' u (by simpa using hu)) ?_)
      intro w2 hrow2 hg2 hz3
      have hrow2' := hrow2.out
      rw [splice_all (by simp [Hd.cells_length, zeroCells])] at hrow2'
      go_wp2_with fail
      refine bodyPost_ret (results_cell_row rfl _ _ w.heap.size _ _ (0, 0) _ rfl hrow2' Tryd.underlying27 rfl Tryd.sizeNode) rfl ?_
      refine ⟨B, c', bs2, by simp [Hd.cells], hown.same fun b hb => hg2.block b (hfr b hb).2 (fun e => ?_), hnd2, fun b hb => ?_, hbw.grown hg2 hbw.size (fun k hk => by injection hk with hk; omega)⟩
      · injection e with e
        have := (hfr b hb).1
        omega
      · have := hfr b hb
        omega

end Go.Proofs.YtbbhobojghmkpaaDoor

/-! ## Lives20 -/
namespace Go.Proofs.YtbbhobojghmkpaaDoor
open Go.RowKit

def byt20 (b : Nat) : T := T.byte b
def tX : T := .mk ⟨8, 0, 0, 0, 0, 0, 0, -1, false⟩ [T.byte 120]
def tABC : T := .mk ⟨5, 0, 0, 0, 0, 0, 0, 0, false⟩ [T.byte 97, T.byte 98, T.byte 99]
def tD : T := .mk ⟨8, 0, 0, 0, 0, 0, 0, 1, false⟩ [T.byte 100]
def t20 : T := .mk ⟨5, 0, 0, 0, 0, 0, 0, 0, false⟩ [tX, tABC, tD]
def tAB : T := .mk ⟨5, 0, 0, 0, 0, 0, 0, 0, false⟩ [T.byte 97, T.byte 98]
def tABAB : T := .mk ⟨8, 0, 0, 0, 0, 0, 2, 2, false⟩ [tAB]
theorem tABAB_check : tABAB.check = none := by decide +kernel
theorem tABAB_only : tABAB.only = some ⟨#[97, 98, 97, 98]⟩ := by decide +kernel
theorem t20_check : t20.check = none := by decide +kernel
theorem t20_req : t20.req = ⟨#[97, 98, 99]⟩ := by decide +kernel
theorem t20_next : t20.nextOf ⟨#[97, 98, 120, 97, 98, 99]⟩ 1 = some 2 := by decide +kernel
theorem tABAB_wf : tABAB.wf := by
  simp [tABAB, tAB, T.byte, T.wf, TL.wf, Hd.wf, IsI64, IsU64]
  decide
theorem t20_wf : t20.wf := by
  simp [t20, tX, tABC, tD, T.byte, T.wf, TL.wf, Hd.wf, IsI64, IsU64]
  decide
theorem T.hd_mk (h : Hd) (l : List T) : (T.mk h l).hd = h := rfl
theorem T.subs_mk (h : Hd) (l : List T) : (T.mk h l).subs = l := rfl
theorem calls_fresh20 {f : FuncId} {args : Array Value} {w : World} {t t' : T} (h : Calls Tryd.prog f args w (Fresh t w)) (e : t = t') : Calls Tryd.prog f args w (Fresh t' w) := e ▸ h
theorem triple_in {w : World} {t u v : T} {B C D : Option Addr} (b c d : Nat) (h1 : T.In w (· < w.heap.size) t B) (h2 : T.In w (· < w.heap.size) u C) (h3 : T.In w (· < w.heap.size) v D) (W : World) (hW : W = w.alloc (.cells (t.hd.cells (.slice B t.subs.length b) ++ (u.hd.cells (.slice C u.subs.length c) ++ v.hd.cells (.slice D v.subs.length d))).toArray 27)) :
    TL.In W (· < W.heap.size) [t, u, v] (some ⟨w.heap.size, 0, none⟩) := by
  have hb := (Below.refl w.heap.size w).alloc (Nat.le_refl _) (.cells (t.hd.cells (.slice B t.subs.length b) ++ (u.hd.cells (.slice C u.subs.length c) ++ v.hd.cells (.slice D v.subs.length d))).toArray 27)
  have hk := Blk.new w 27 (t.hd.cells (.slice B t.subs.length b) ++ (u.hd.cells (.slice C u.subs.length c) ++ v.hd.cells (.slice D v.subs.length d))).toArray
  rw [← hW] at hb hk
  have hz : w.heap.size < W.heap.size := hk.lt
  refine ⟨w.heap.size, 0, B, b, rfl, hz, fun j x hx => ?_, h1.next hb, w.heap.size, 10, C, c, rfl, hz, fun j x hx => ?_, h2.next hb, w.heap.size, 20, D, d, rfl, hz, fun j x hx => ?_, h3.next hb, trivial⟩
  · rw [Addr.add_lit, Nat.zero_add, hk.cell, List.getElem?_toArray, List.getElem?_append_left (List.getElem?_eq_some_iff.1 hx).1]
    exact hx
  · rw [Addr.add_lit, hk.cell, List.getElem?_toArray, List.getElem?_append_right (by simp [Hd.cells_length])]
    simp only [Hd.cells_length]
    rw [show 10 + j - 10 = j by omega, List.getElem?_append_left (List.getElem?_eq_some_iff.1 hx).1]
    exact hx
  · rw [Addr.add_lit, hk.cell, List.getElem?_toArray, List.getElem?_append_right (by simp [Hd.cells_length]; omega), List.getElem?_append_right (by simp [Hd.cells_length]; omega)]
    simp only [Hd.cells_length]
    rw [show 20 + j - 10 - 10 = j by omega]
    exact hx
theorem Fresh.get {t : T} {w : World} {e : Ending} {w' : World} (h : Fresh t w e w') : ∃ B c, e = .returned (.agg (t.hd.cells (.slice B t.subs.length c)).toArray) ∧ T.In w' (· < w'.heap.size) t B ∧ Below w.heap.size w w' := by
  obtain ⟨B, c, bs, h1, h2, _, h4, h5⟩ := h
  exact ⟨B, c, h1, h2.in_ (fun b hb => (h4 b hb).2), h5⟩
set_option maxRecDepth 100000 in
set_option maxHeartbeats 1500000 in
theorem lives20_any (w : World) (a : Nat → Addr) (hT : Tab w) (hE : Sent [0, 1, 2] w a) : Calls Tryd.prog 11 #[] w fun e w' => e = .returned (.bool true) ∧ Below w.heap.size w w' := by
  have HE := hide (fun x (hx : Below w.heap.size w x) => hE.below hx)
  have HT := hide (fun x (hx : Below w.heap.size w x) => hT.below hx)
  clear hE hT
  obtain ⟨tx, htx⟩ : ∃ t, t = T.byte 120 := ⟨_, rfl⟩
  obtain ⟨ta, hta⟩ : ∃ t, t = tABC := ⟨_, rfl⟩
  obtain ⟨td, htd⟩ : ∃ t, t = T.byte 100 := ⟨_, rfl⟩
  obtain ⟨tb, htb⟩ : ∃ t, t = tAB := ⟨_, rfl⟩
  have HX := hide (fun y => calls_fresh20 (text_any ⟨#[120]⟩ y (by decide)) (show T.seq (T.texts ⟨#[120]⟩) = tx from htx ▸ rfl))
  have HA := hide (fun y => calls_fresh20 (text_any ⟨#[97, 98, 99]⟩ y (by decide)) (show T.seq (T.texts ⟨#[97, 98, 99]⟩) = ta from hta ▸ rfl))
  have HD := hide (fun y => calls_fresh20 (text_any ⟨#[100]⟩ y (by decide)) (show T.seq (T.texts ⟨#[100]⟩) = td from htd ▸ rfl))
  have HB := hide (fun y => calls_fresh20 (text_any ⟨#[97, 98]⟩ y (by decide)) (show T.seq (T.texts ⟨#[97, 98]⟩) = tb from htb ▸ rfl))
  have n1 : tx.nodes ≤ 10 := by rw [htx]; decide
  have n2 : ta.nodes ≤ 10 := by rw [hta]; decide
  have n3 : td.nodes ≤ 10 := by rw [htd]; decide
  have n4 : tb.nodes ≤ 10 := by rw [htb]; decide
  have e20 : T.mk ⟨5, 0, 0, 0, 0, 0, 0, 0, false⟩ [T.mk ⟨8, 0, 0, 0, 0, 0, 0, -1, false⟩ [tx], ta, T.mk ⟨8, 0, 0, 0, 0, 0, 0, 1, false⟩ [td]] = t20 := by rw [htx, hta, htd]; rfl
  have eAB : T.mk ⟨8, 0, 0, 0, 0, 0, 2, 2, false⟩ [tb] = tABAB := by rw [htb]; rfl
  have HEQ := hide (And.intro e20 eAB)
  clear htx hta htd htb e20 eAB
  go_enter Tryd.func11, Tryd.ntmps11
  go_wp2_with fail
  refine (HX.out w).mono ?_
  intro e w1 hf
  obtain ⟨B1, c1, rfl, hi, hb⟩ := hf.get
  have H1 := hide (And.intro hb hi)
  have HR := hide (rep_any tx B1 c1 0 (-1) w1 (by omega) hi)
  clear hf hb hi HX
  simp only [Hd.cells] at HR ⊢
  go_wp2_with fail
  refine HR.out.mono ?_
  intro e w2 hf
  obtain ⟨B2, c2, rfl, hi, hb⟩ := hf.get
  have H2 := hide (And.intro (H1.out.1.trans (hb.mono H1.out.1.size)) hi)
  clear hf hb hi HR H1
  simp only [T.hd_mk, T.subs_mk, Hd.cells, List.length_cons, List.length_nil, Nat.zero_add]
  go_wp2_with fail
  refine (HA.out w2).mono ?_
  intro e w3 hf
  obtain ⟨B3, c3, rfl, hi, hb⟩ := hf.get
  have H3 := hide (And.intro (H2.out.1.trans (hb.mono H2.out.1.size)) (And.intro (H2.out.2.next hb) hi))
  clear hf hb hi HA H2
  simp only [Hd.cells]
  go_wp2_with fail
  refine (HD.out w3).mono ?_
  intro e w4 hf
  obtain ⟨B4, c4, rfl, hi, hb⟩ := hf.get
  have H4 := hide (And.intro (H3.out.1.trans (hb.mono H3.out.1.size)) (And.intro (H3.out.2.1.next hb) (H3.out.2.2.next hb)))
  have HR := hide (rep_any td B4 c4 0 1 w4 (by omega) hi)
  clear hf hb hi HD H3
  simp only [Hd.cells] at HR ⊢
  go_wp2_with fail
  refine HR.out.mono ?_
  intro e w5 hf
  obtain ⟨B5, c5, rfl, hi, hb⟩ := hf.get
  have H5 := hide (And.intro (H4.out.1.trans (hb.mono H4.out.1.size)) (And.intro (H4.out.2.1.next hb) (And.intro (H4.out.2.2.next hb) hi)))
  clear hf hb hi HR H4
  simp only [T.hd_mk, T.subs_mk, Hd.cells, List.length_cons, List.length_nil, Nat.zero_add]
  obtain ⟨W, hW⟩ : ∃ W, W = w5.alloc (.cells (Hd.cells ⟨8, 0, 0, 0, 0, 0, 0, -1, false⟩ (.slice B2 [tx].length c2) ++ (ta.hd.cells (.slice B3 ta.subs.length c3) ++ Hd.cells ⟨8, 0, 0, 0, 0, 0, 0, 1, false⟩ (.slice B5 [td].length c5))).toArray 27) := ⟨_, rfl⟩
  have hti := triple_in c2 c3 c5 H5.out.2.1 H5.out.2.2.1 H5.out.2.2.2 W hW
  have hbW := (Below.refl w5.heap.size w5).alloc (Nat.le_refl _) (.cells (Hd.cells ⟨8, 0, 0, 0, 0, 0, 0, -1, false⟩ (.slice B2 [tx].length c2) ++ (ta.hd.cells (.slice B3 ta.subs.length c3) ++ Hd.cells ⟨8, 0, 0, 0, 0, 0, 0, 1, false⟩ (.slice B5 [td].length c5))).toArray 27)
  rw [← hW] at hbW
  have hsq := seq_any [T.mk ⟨8, 0, 0, 0, 0, 0, 0, -1, false⟩ [tx], ta, T.mk ⟨8, 0, 0, 0, 0, 0, 0, 1, false⟩ [td]] (some ⟨w5.heap.size, 0, none⟩) 3 W (by simp only [T.nodes, TL.nodes]; omega) hti
  have HSQ := hide (calls_fresh20 hsq (show T.seq [T.mk ⟨8, 0, 0, 0, 0, 0, 0, -1, false⟩ [tx], ta, T.mk ⟨8, 0, 0, 0, 0, 0, 0, 1, false⟩ [td]] = t20 from HEQ.out.1 ▸ rfl))
  have HW := hide (H5.out.1.trans (hbW.mono H5.out.1.size))
  simp only [Hd.cells, List.length_cons, List.length_nil, Nat.zero_add, List.cons_append, List.nil_append] at hW HSQ
  clear hti hbW hsq H5
  go_wp2_with fail
  rw [← hW]
  refine HSQ.out.mono ?_
  intro e w6 hf
  obtain ⟨B6, c6, rfl, hi, hb⟩ := hf.get
  have H6 := hide (And.intro (HW.out.trans (hb.mono HW.out.size)) hi)
  clear hf hb hi HSQ HW hW
  obtain ⟨u20, hu20⟩ : ∃ u, u = t20 := ⟨_, rfl⟩
  rw [← hu20] at H6 ⊢
  have HU := hide hu20
  clear hu20
  simp only [Hd.cells]
  go_wp2_with fail
  obtain ⟨w7, hw7⟩ : ∃ y, y = w6.alloc (.cells (u20.hd.cells (.slice B6 u20.subs.length c6)).toArray 27) := ⟨_, rfl⟩
  have hbW := (Below.refl w6.heap.size w6).alloc (Nat.le_refl _) (.cells (u20.hd.cells (.slice B6 u20.subs.length c6)).toArray 27)
  have hk := Blk.new w6 27 (u20.hd.cells (.slice B6 u20.subs.length c6)).toArray
  rw [← hw7] at hbW hk
  have H7 := hide (And.intro (H6.out.1.trans (hbW.mono H6.out.1.size)) (And.intro (H6.out.2.next hbW) hk))
  simp only [Hd.cells] at hw7
  rw [← hw7]
  clear hbW hk H6 hw7
  refine (HB.out w7).mono ?_
  intro e w8 hf
  obtain ⟨B8, c8, rfl, hi, hb⟩ := hf.get
  have H8 := hide (And.intro (H7.out.1.trans (hb.mono H7.out.1.size)) (And.intro (H7.out.2.1.next hb) (H7.out.2.2.next hb)))
  have HR := hide (calls_fresh20 (rep_any tb B8 c8 2 2 w8 (by omega) hi) HEQ.out.2)
  clear hf hb hi H7 HB
  simp only [Hd.cells]
  go_wp2_with fail
  refine HR.out.mono ?_
  intro e w9 hf
  obtain ⟨B9, c9, rfl, hi, hb⟩ := hf.get
  have H9 := hide (And.intro (H8.out.1.trans (hb.mono H8.out.1.size)) (And.intro (H8.out.2.1.next hb) (H8.out.2.2.next hb)))
  have ho := Only_any tABAB B9 c9 w9 a (by decide) tABAB_wf (HT.out w9 H9.out.1) (HE.out w9 H9.out.1) hi
  rw [tABAB_check] at ho
  simp only [tABAB_only] at ho
  have HO := hide ho
  clear hf hb hi HR H8 ho
  simp only [Hd.cells] at HO ⊢
  go_wp2_with fail
  refine HO.out.mono ?_
  rintro e w10 ⟨rfl, hb⟩
  have H10 := hide (And.intro (H9.out.1.trans (hb.mono H9.out.1.size)) (And.intro (H9.out.2.1.next hb) (H9.out.2.2.next hb)))
  clear hb HO H9
  simp only [optV, Option.getD_some, Option.isSome_some]
  have HL := hide (show CellsAt w10 ⟨w6.heap.size, 0, none⟩ (u20.hd.cells (.slice B6 u20.subs.length c6)) from fun j u hu => by
    rw [Addr.add_lit, Nat.zero_add, H10.out.2.2.cell, List.getElem?_toArray]
    exact hu)
  go_wp2_with (refine wpList_load_cells rfl 27 _ rfl ⟨w6.heap.size, 0, none⟩ rfl (u20.hd.cells (.slice B6 u20.subs.length c6)) _ Tryd.underlying27 rfl (by rw [Tryd.sizeNode]; simp [Hd.cells_length]) HL.out ?_)
  have hn := next_any u20 B6 c6 ⟨#[97, 98, 120, 97, 98, 99]⟩ 1 w10 a (by decide) (by rw [HU.out]; decide) (by rw [HU.out]; exact t20_wf) (HT.out w10 H10.out.1) (HE.out w10 H10.out.1) H10.out.2.1
  rw [show u20.nextOf ⟨#[97, 98, 120, 97, 98, 99]⟩ 1 = some 2 by rw [HU.out]; exact t20_next] at hn
  refine hn.mono ?_
  rintro e w11 ⟨rfl, hb⟩
  have H11 := hide (And.intro (H10.out.1.trans (hb.mono H10.out.1.size)) (And.intro (H10.out.2.1.next hb) (H10.out.2.2.next hb)))
  clear hb hn HL H10
  simp only [optN, Option.getD_some, Option.isSome_some]
  have HL := hide (show CellsAt w11 ⟨w6.heap.size, 0, none⟩ (u20.hd.cells (.slice B6 u20.subs.length c6)) from fun j u hu => by
    rw [Addr.add_lit, Nat.zero_add, H11.out.2.2.cell, List.getElem?_toArray]
    exact hu)
  go_wp2_with (refine wpList_load_cells rfl 27 _ rfl ⟨w6.heap.size, 0, none⟩ rfl (u20.hd.cells (.slice B6 u20.subs.length c6)) _ Tryd.underlying27 rfl (by rw [Tryd.sizeNode]; simp [Hd.cells_length]) HL.out ?_)
  have hn := Required_any u20 B6 c6 w11 a (by rw [HU.out]; decide) (by rw [HU.out]; exact t20_wf) (HT.out w11 H11.out.1) (HE.out w11 H11.out.1) H11.out.2.1
  rw [show u20.check = none by rw [HU.out]; exact t20_check] at hn
  simp only [show u20.req = ⟨#[97, 98, 99]⟩ by rw [HU.out]; exact t20_req] at hn
  refine hn.mono ?_
  rintro e w12 ⟨rfl, hb⟩
  have H12 := hide (H11.out.1.trans (hb.mono H11.out.1.size))
  clear hb hn HL H11
  have q1 : ((⟨#[97, 98, 99]⟩ : ByteArray).toList == (⟨#[97, 98, 99]⟩ : ByteArray).toList) = true := by rw [toList_beq]; simp
  have q2 : ((⟨#[97, 98, 97, 98]⟩ : ByteArray).toList == (⟨#[97, 98, 97, 98]⟩ : ByteArray).toList) = true := by rw [toList_beq]; simp
  go_wp2_with fail
  refine bodyPost_ret (v := .bool true) (by simp [results, Tryd.results11, go_sem]) rfl ?_
  exact ⟨rfl, H12.out⟩
end Go.Proofs.YtbbhobojghmkpaaDoor

/-! ## LongN -/
namespace Go.Proofs.YtbbhobojghmkpaaDoor
open Go.RowKit

def LongedN (n : Nat) (w : World) (e : Ending) (w' : World) : Prop := ∃ lg : Bool, e = .returned (.bool lg) ∧ (lg = false → n ≤ 2500) ∧ Below w.heap.size w w'
set_option maxRecDepth 100000 in
set_option maxHeartbeats 2000000 in
theorem longN_any (t : T) (A : Option Addr) (c : Nat) (w : World) (hwf : t.wf) (hin : T.In w (· < w.heap.size) t A) :
    Calls Tryd.prog 20 #[.agg (t.hd.cells (.slice A t.subs.length c)).toArray] w (LongedN t.nodes w) := by
  have HF := hide (fun (x : World) (hx : Below w.heap.size w x) => few_any t A c 2500 x hwf (by decide) (by decide) (hin.next hx))
  have HN := hide (fun h => few_nodes (t := t) (m := 2500) (by decide) h)
  have HS := hide (fun (x : World) (hx : Below w.heap.size w x) => refSizeAll_gen t A c x (.inr hwf) (hin.next hx))
  clear hin hwf
  generalize t.fullSize = sz at *
  generalize t.nodes = nd at HN ⊢
  generalize decide (0 ≤ t.left 2500) = few at *
  obtain ⟨h, l⟩ := t
  obtain ⟨kind, s0, s1, s2, s3, num, mn, mx, bare⟩ := h
  simp only [T.hd, T.subs, Hd.cells] at HF HS ⊢
  have hbel := (Below.refl w.heap.size w).alloc (Nat.le_refl _) (.cells #[.int .i64 kind, .int .u64 s0, .int .u64 s1, .int .u64 s2, .int .u64 s3, .slice A l.length c, .int .i64 num, .int .i64 mn, .int .i64 mx, .bool bare] 27)
  have hb0 := Blk.new w 27 #[.int .i64 kind, .int .u64 s0, .int .u64 s1, .int .u64 s2, .int .u64 s3, .slice A l.length c, .int .i64 num, .int .i64 mn, .int .i64 mx, .bool bare]
  have H0 := hide (And.intro hb0 hbel)
  have c0 := hb0.cell
  clear hb0 hbel
  go_enter Tryd.func20, Tryd.ntmps20
  go_upto_region 1 with fail
  generalize (w.alloc (.cells #[.int .i64 kind, .int .u64 s0, .int .u64 s1, .int .u64 s2, .int .u64 s3, .slice A l.length c, .int .i64 num, .int .i64 mn, .int .i64 mx, .bool bare] 27)) = W at *
  go_wp2_with fail
  refine (HS.out W H0.out.2).mono ?_
  rintro e w1 ⟨rfl, hb1⟩
  have H1 := hide (And.intro (H0.out.1.next hb1) (H0.out.2.trans (hb1.mono H0.out.2.size)))
  clear hb1 HS c0 H0
  have c0 := H1.out.1.cell
  cases d1 : decide (200 < sz) <;> cases d2 : decide (sz ≤ 2000) <;> cases few <;> (
    go_wp2_with fail
    refine (HF.out w1 H1.out.2).mono ?_
    rintro e w2 ⟨rfl, hb2⟩
    have H2 := hide (H1.out.2.trans (hb2.mono H1.out.2.size))
    clear hb2
    go_wp2_with fail
    go_ret
    exact ⟨_, rfl, (fun h => by first | (exact absurd h (by decide)) | (have := HN.out (by first | rfl | trivial); omega)), H2.out⟩)
end Go.Proofs.YtbbhobojghmkpaaDoor
