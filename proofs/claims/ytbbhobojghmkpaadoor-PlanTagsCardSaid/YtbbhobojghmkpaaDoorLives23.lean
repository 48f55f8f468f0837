/- Plan23: plan.nothing and plan.kinds: what they answer of a tree in form. (Printed by gen_plan23.py.)
Tags23: plan.Tags: what it answers of any tree. (Printed by gen_tags23.py.)
Choose23: The closure of plan.Choose and trawlref23.on: is a tag among some? (Printed by gen_choose23.py.)
Tell23: plan.Tell and trawlref23.Tell: a plan in words. (Printed by gen_tell23.py.)
Pick23: plan.Choose and trawlref23.Choose: which engines answer. (Printed by gen_pick23.py.)
Lives23: trawllaw23.lives: its fixed facts. -/
import Derived.Test.YtbbhobojghmkpaaDoorOnly20
import Derived.Test.YtbbhobojghmkpaaDoorNext20
import Derived.Test.YtbbhobojghmkpaaDoorMake2
import Derived.Test.YtbbhobojghmkpaaDoorSeq
import Derived.Laws.BitsAllLaws
set_option linter.unusedSimpArgs false
set_option linter.unusedVariables false
set_option linter.unnecessarySimpa false

/-! ## Text -/
namespace Go.Proofs.YtbbhobojghmkpaaDoor
open Go.RowKit

/-- The set of one byte, and its node. -/
def word (b i : Nat) : Int := if b / 64 = i then IntKind.u64.wrap (2 ^ (b % 64)) else 0
def T.byte (b : Nat) : T := .mk ⟨2, word b 0, word b 1, word b 2, word b 3, 0, 0, 0, false⟩ []
def T.texts (s : ByteArray) : List T := s.data.toList.map fun b => T.byte b.toNat

theorem and63 (b : UInt8) : bits .and .u8 (b.toNat : Int) 63 = ((b.toNat % 64 : Nat) : Int) := by
  have := u8_and_nat b.toNat 63 b.toNat_lt (by decide)
  rw [show ((63 : Nat) : Int) = 63 from rfl] at this
  rw [this, show 63 = 2 ^ 6 - 1 from rfl, Nat.and_two_pow_sub_one_eq_mod]

theorem shl_oneT (n : Nat) (hn : n < 64) : Op.shift .shl .u64 1 .u8 (n : Int) = pure (.int .u64 (IntKind.u64.wrap (2 ^ n))) := by
  unfold Op.shift
  rw [if_neg (by omega)]
  have h1 : min (n : Int).toNat 64 = n := by omega
  simp only [IntKind.bits, h1, Int.one_mul]

theorem T.byte_nodes (b : Nat) : (T.byte b).nodes = 1 := rfl

theorem T.texts_nodes (l : List UInt8) : TL.nodes (l.map fun b => T.byte b.toNat) = l.length := by
  induction l with
  | nil => rfl
  | cons a l ih => simp only [List.map_cons, TL.nodes, ih, List.length_cons, T.byte_nodes]; omega

set_option maxRecDepth 100000 in
set_option maxHeartbeats 2000000 in
theorem text_any (s : ByteArray) (w : World) (hs : s.size ≤ 100000) : Calls Tryd.prog 43 #[.string s] w (Fresh (T.seq (T.texts s)) w) := by
  go_enter Tryd.func43, Tryd.ntmps43
  go_wp2_with fail
  go_loopw [3, 4] (fun v kv wr => ∃ (k : Nat) (bs : List Nat), kv = .int .i64 k ∧ k ≤ s.size ∧ GrowT (w.heap.size + 1) wr v ((T.texts s).take k) bs ∧ Below w.heap.size w wr ∧ Blk wr w.heap.size 27 zeroCells) (fun _ kv _ => s.size - (intOf kv).toNat)
  case atStart => exact ⟨0, [], rfl, Nat.zero_le _, GrowT.nil _ _, (Below.refl _ _).alloc (Nat.le_refl _) _, Blk.new _ _ _⟩
  case round =>
    obtain ⟨k, bs, rfl, hk, hgrow, hbel, hb0⟩ := hrel
    have z0 := hb0.lt
    by_cases hlt : k < s.size
    · have hat : (0 : Int) ≤ k ∧ (k : Int) < s.size := by omega
      have hb256 := s[k].toNat_lt
      have hand := and63 s[k]
      have hshl := shl_oneT (s[k].toNat % 64) (by omega)
      have hq : (0 : Int) ≤ s[k].toNat / 64 ∧ (s[k].toNat : Int) / 64 < 4 := by omega
      have hq2 : ((s[k].toNat : Int) / 64).toNat = s[k].toNat / 64 := by omega
      go_wp2_with fail
      refine wp_region_mix (fun x => True) [10] (by kernel_rfl) (fun hcl => ?_)
      have hS := trivial
      refine wpAnyT_free (i := 0) hcl rfl (by kernel_rfl) (v := ?_) (fun _ _ _ h => h) hS (Or.inl ⟨rfl, fun w' _ => ?_⟩) (fun hcl => ?_)
      rotate_left
      · go_simp
        with_reducible rfl
      simp only [List.getElem_toArray, List.getElem_cons_zero, List.getElem_cons_succ, Act.put, List.setIfInBounds_toArray, List.set_cons_zero, List.set_cons_succ]
      refine wpAnyT_free (i := 1) hcl rfl (by kernel_rfl) (v := ?_) (fun _ _ _ h => h) hS (Or.inl ⟨rfl, fun w' _ => ?_⟩) (fun hcl => ?_)
      rotate_left
      · go_simp
        with_reducible rfl
      simp only [List.getElem_toArray, List.getElem_cons_zero, List.getElem_cons_succ, Act.put, List.setIfInBounds_toArray, List.set_cons_zero, List.set_cons_succ]
      refine wpAnyT_free (i := 2) hcl rfl (by kernel_rfl) (v := ?_) (fun _ _ _ h => h) hS (Or.inl ⟨rfl, fun w' _ => ?_⟩) (fun hcl => ?_)
      rotate_left
      · go_simp
        with_reducible rfl
      simp only [List.getElem_toArray, List.getElem_cons_zero, List.getElem_cons_succ, Act.put, List.setIfInBounds_toArray, List.set_cons_zero, List.set_cons_succ]
      refine wpAnyT_free (i := 3) hcl rfl (by kernel_rfl) (v := ?_) (fun _ _ _ h => h) hS (Or.inl ⟨rfl, fun w' _ => ?_⟩) (fun hcl => ?_)
      rotate_left
      · go_simp
        with_reducible rfl
      simp only [List.getElem_toArray, List.getElem_cons_zero, List.getElem_cons_succ, Act.put, List.setIfInBounds_toArray, List.set_cons_zero, List.set_cons_succ]
      refine wpAnyT_free (i := 4) hcl rfl (by kernel_rfl) (v := ?_) (fun _ _ _ h => h) hS (Or.inl ⟨rfl, fun w' _ => ?_⟩) (fun hcl => ?_)
      rotate_left
      · go_simp
        with_reducible rfl
      simp only [List.getElem_toArray, List.getElem_cons_zero, List.getElem_cons_succ, Act.put, List.setIfInBounds_toArray, List.set_cons_zero, List.set_cons_succ]
      refine wpAnyT_free (i := 5) hcl rfl (by kernel_rfl) (v := ?_) (fun _ _ _ h => h) hS (Or.inl ⟨rfl, fun w' _ => ?_⟩) (fun hcl => ?_)
      rotate_left
      · go_simp
        with_reducible rfl
      simp only [List.getElem_toArray, List.getElem_cons_zero, List.getElem_cons_succ, Act.put, List.setIfInBounds_toArray, List.set_cons_zero, List.set_cons_succ]
      refine wpAnyT_free (i := 6) hcl rfl (by kernel_rfl) (v := ?_) (fun _ _ _ h => h) hS (Or.inl ⟨rfl, fun w' _ => ?_⟩) (fun hcl => ?_)
      rotate_left
      · go_simp
        with_reducible rfl
      simp only [List.getElem_toArray, List.getElem_cons_zero, List.getElem_cons_succ, Act.put, List.setIfInBounds_toArray, List.set_cons_zero, List.set_cons_succ]
      refine wpAnyT_free (i := 7) hcl rfl (by kernel_rfl) (v := ?_) (fun _ _ _ h => h) hS (Or.inl ⟨rfl, fun w' _ => ?_⟩) (fun hcl => ?_)
      rotate_left
      · go_simp
        with_reducible rfl
      simp only [List.getElem_toArray, List.getElem_cons_zero, List.getElem_cons_succ, Act.put, List.setIfInBounds_toArray, List.set_cons_zero, List.set_cons_succ]
      refine wpAnyT_free (i := 8) hcl rfl (by kernel_rfl) (v := ?_) (fun _ _ _ h => h) hS (Or.inl ⟨rfl, fun w' _ => ?_⟩) (fun hcl => ?_)
      rotate_left
      · go_simp
        with_reducible rfl
      simp only [List.getElem_toArray, List.getElem_cons_zero, List.getElem_cons_succ, Act.put, List.setIfInBounds_toArray, List.set_cons_zero, List.set_cons_succ]
      refine wpAnyT_free (i := 9) hcl rfl (by kernel_rfl) (v := ?_) (fun _ _ _ h => h) hS (Or.inl ⟨rfl, fun w' _ => ?_⟩) (fun hcl => ?_)
      rotate_left
      · go_simp
        with_reducible rfl
      simp only [List.getElem_toArray, List.getElem_cons_zero, List.getElem_cons_succ, Act.put, List.setIfInBounds_toArray, List.set_cons_zero, List.set_cons_succ]
      refine wpAnyT_last (i := 10) hcl rfl (by kernel_rfl) (by kernel_rfl) (fun hcl => ?_)
      simp only [List.getElem_toArray, List.getElem_cons_zero, List.getElem_cons_succ, Act.put, List.setIfInBounds_toArray, List.set_cons_zero, List.set_cons_succ]
      obtain ⟨q, hq3⟩ : ∃ q, q = s[k].toNat / 64 := ⟨_, rfl⟩
      have hq4 : s[k].toNat / 64 = q := hq3.symm
      have hb := hide hq3
      have hqs : q = 0 ∨ q = 1 ∨ q = 2 ∨ q = 3 := by omega
      rw [hq4]
      clear hq4 hq3 hand hshl
      try clear hq
      try clear hq2
      have hsk : (T.texts s)[k]? = some (T.byte s[k].toNat) := by
        simp only [T.texts, List.getElem?_map]
        rw [Array.getElem?_toList, Array.getElem?_eq_getElem hlt]
        rfl
      have hsl : ((T.texts s).take k).length < 1000000 := by
        rw [List.length_take]; omega
      have HG := hide (And.intro hgrow (And.intro hbel (And.intro hb0 (And.intro hsk hsl))))
      clear hgrow hbel hb0 hsk hsl
      rcases hqs with h | h | h | h
      · subst h
        go_wp2_with fail
        refine wpAnyT_done (by kernel_rfl) ?_ _
        go_wp2_with fail
        refine (bytes_any (IntKind.u64.wrap (2 ^ (s[k].toNat % 64))) 0 0 0 _).mono ?_
        rintro e w1 ⟨rfl, hbel2⟩
        have hz2 := hbel2.size
        simp only [World.size_drew, World.size_alloc] at hz2
        have hbelA : Below wr.heap.size wr w1 := (((Below.refl _ _).alloc (Nat.le_refl _) _).drew).trans (hbel2.mono (by simp))
        clear hbel2
        obtain ⟨hgrow, hbel, hb0, hsk, hsl⟩ := HG.out
        have hgA := hide (fun X => (hgrow.below hbelA).below ((Below.refl _ _).alloc (Nat.le_refl _) X))
        have z0 := hbel.size
        have hbwr := hide hbelA
        clear hbelA hgrow hbel hb0 hsk
        go_wp2_with (at_builtin; refine wpList_append_node rfl _ _ rfl (w.heap.size + 1) _ ((T.texts s).take k) bs rfl (hgA.out _) (.mk ⟨2, (IntKind.u64.wrap (2 ^ (s[k].toNat % 64))), 0, 0, 0, 0, 0, 0, false⟩ []) none 0 w1.heap.size _ [] rfl (Blk.new _ _ _) (.inl ⟨rfl, rfl⟩) List.nodup_nil (by simp) hsl (by simp; omega) ?_)
        intro v' w2 hgrow2 hg2
        have hz3 := hg2.size
        rw [World.size_alloc] at hz3
        have hbelA := hbwr.out
        obtain ⟨hgrow, hbel, hb0, hsk, _⟩ := HG.out
        have hown : ∀ g, u3.ownBlock = some g → w.heap.size + 1 ≤ g ∧ g < wr.heap.size := by
          obtain ⟨xs, q1, _⟩ := hgrow
          exact q1.lt
        have hgrow2' : GrowT (w.heap.size + 1) w2 v' ((T.texts s).take (k + 1)) bs := by
          rw [show (T.texts s).take (k + 1) = (T.texts s).take k ++ [.mk ⟨2, (IntKind.u64.wrap (2 ^ (s[k].toNat % 64))), 0, 0, 0, 0, 0, 0, false⟩ []] from by
            rw [List.take_add_one, hsk]
            have := hb.out
            simp [T.byte, word, ← this]]
          exact hgrow2
        have hkeep : ∀ g, g < w.heap.size + 1 → w2.heap[g]? = wr.heap[g]? := fun g hx => by
          rw [hg2.block g (by simp; omega) (fun e => by have := (hown g e.symm).1; omega), Below.heap_alloc _ _ _ (by omega), hbelA.block g (by omega)]
        have hgoal : Below w.heap.size w w2 := ⟨(hg2.os.trans hbelA.os).trans hbel.os, (hg2.tape.trans hbelA.tape).trans hbel.tape, (hg2.output.trans hbelA.output).trans hbel.output, by omega, fun g hx => by rw [hkeep g (by omega), hbel.block g hx]⟩
        have hb0' : Blk w2 w.heap.size 27 zeroCells := (hkeep _ (by omega)).trans hb0
        have HG2 := hide (And.intro hgrow2' (And.intro hgoal hb0'))
        clear hgrow2' hgoal hown hgrow hbelA hgrow2 hg2 hkeep hb0 hb0' hbel hsk hgA
        go_wp2_with fail
        go_roundw
        case rel => exact ⟨k + 1, bs, by go_num, by omega, HG2.out⟩
        case measure => simp [intOf]; omega
      · subst h
        go_wp2_with fail
        refine wpAnyT_done (by kernel_rfl) ?_ _
        go_wp2_with fail
        refine (bytes_any 0 (IntKind.u64.wrap (2 ^ (s[k].toNat % 64))) 0 0 _).mono ?_
        rintro e w1 ⟨rfl, hbel2⟩
        have hz2 := hbel2.size
        simp only [World.size_drew, World.size_alloc] at hz2
        have hbelA : Below wr.heap.size wr w1 := (((Below.refl _ _).alloc (Nat.le_refl _) _).drew).trans (hbel2.mono (by simp))
        clear hbel2
        obtain ⟨hgrow, hbel, hb0, hsk, hsl⟩ := HG.out
        have hgA := hide (fun X => (hgrow.below hbelA).below ((Below.refl _ _).alloc (Nat.le_refl _) X))
        have z0 := hbel.size
        have hbwr := hide hbelA
        clear hbelA hgrow hbel hb0 hsk
        go_wp2_with (at_builtin; refine wpList_append_node rfl _ _ rfl (w.heap.size + 1) _ ((T.texts s).take k) bs rfl (hgA.out _) (.mk ⟨2, 0, (IntKind.u64.wrap (2 ^ (s[k].toNat % 64))), 0, 0, 0, 0, 0, false⟩ []) none 0 w1.heap.size _ [] rfl (Blk.new _ _ _) (.inl ⟨rfl, rfl⟩) List.nodup_nil (by simp) hsl (by simp; omega) ?_)
        intro v' w2 hgrow2 hg2
        have hz3 := hg2.size
        rw [World.size_alloc] at hz3
        have hbelA := hbwr.out
        obtain ⟨hgrow, hbel, hb0, hsk, _⟩ := HG.out
        have hown : ∀ g, u3.ownBlock = some g → w.heap.size + 1 ≤ g ∧ g < wr.heap.size := by
          obtain ⟨xs, q1, _⟩ := hgrow
          exact q1.lt
        have hgrow2' : GrowT (w.heap.size + 1) w2 v' ((T.texts s).take (k + 1)) bs := by
          rw [show (T.texts s).take (k + 1) = (T.texts s).take k ++ [.mk ⟨2, 0, (IntKind.u64.wrap (2 ^ (s[k].toNat % 64))), 0, 0, 0, 0, 0, false⟩ []] from by
            rw [List.take_add_one, hsk]
            have := hb.out
            simp [T.byte, word, ← this]]
          exact hgrow2
        have hkeep : ∀ g, g < w.heap.size + 1 → w2.heap[g]? = wr.heap[g]? := fun g hx => by
          rw [hg2.block g (by simp; omega) (fun e => by have := (hown g e.symm).1; omega), Below.heap_alloc _ _ _ (by omega), hbelA.block g (by omega)]
        have hgoal : Below w.heap.size w w2 := ⟨(hg2.os.trans hbelA.os).trans hbel.os, (hg2.tape.trans hbelA.tape).trans hbel.tape, (hg2.output.trans hbelA.output).trans hbel.output, by omega, fun g hx => by rw [hkeep g (by omega), hbel.block g hx]⟩
        have hb0' : Blk w2 w.heap.size 27 zeroCells := (hkeep _ (by omega)).trans hb0
        have HG2 := hide (And.intro hgrow2' (And.intro hgoal hb0'))
        clear hgrow2' hgoal hown hgrow hbelA hgrow2 hg2 hkeep hb0 hb0' hbel hsk hgA
        go_wp2_with fail
        go_roundw
        case rel => exact ⟨k + 1, bs, by go_num, by omega, HG2.out⟩
        case measure => simp [intOf]; omega
      · subst h
        go_wp2_with fail
        refine wpAnyT_done (by kernel_rfl) ?_ _
        go_wp2_with fail
        refine (bytes_any 0 0 (IntKind.u64.wrap (2 ^ (s[k].toNat % 64))) 0 _).mono ?_
        rintro e w1 ⟨rfl, hbel2⟩
        have hz2 := hbel2.size
        simp only [World.size_drew, World.size_alloc] at hz2
        have hbelA : Below wr.heap.size wr w1 := (((Below.refl _ _).alloc (Nat.le_refl _) _).drew).trans (hbel2.mono (by simp))
        clear hbel2
        obtain ⟨hgrow, hbel, hb0, hsk, hsl⟩ := HG.out
        have hgA := hide (fun X => (hgrow.below hbelA).below ((Below.refl _ _).alloc (Nat.le_refl _) X))
        have z0 := hbel.size
        have hbwr := hide hbelA
        clear hbelA hgrow hbel hb0 hsk
        go_wp2_with (at_builtin; refine wpList_append_node rfl _ _ rfl (w.heap.size + 1) _ ((T.texts s).take k) bs rfl (hgA.out _) (.mk ⟨2, 0, 0, (IntKind.u64.wrap (2 ^ (s[k].toNat % 64))), 0, 0, 0, 0, false⟩ []) none 0 w1.heap.size _ [] rfl (Blk.new _ _ _) (.inl ⟨rfl, rfl⟩) List.nodup_nil (by simp) hsl (by simp; omega) ?_)
        intro v' w2 hgrow2 hg2
        have hz3 := hg2.size
        rw [World.size_alloc] at hz3
        have hbelA := hbwr.out
        obtain ⟨hgrow, hbel, hb0, hsk, _⟩ := HG.out
        have hown : ∀ g, u3.ownBlock = some g → w.heap.size + 1 ≤ g ∧ g < wr.heap.size := by
          obtain ⟨xs, q1, _⟩ := hgrow
          exact q1.lt
        have hgrow2' : GrowT (w.heap.size + 1) w2 v' ((T.texts s).take (k + 1)) bs := by
          rw [show (T.texts s).take (k + 1) = (T.texts s).take k ++ [.mk ⟨2, 0, 0, (IntKind.u64.wrap (2 ^ (s[k].toNat % 64))), 0, 0, 0, 0, false⟩ []] from by
            rw [List.take_add_one, hsk]
            have := hb.out
            simp [T.byte, word, ← this]]
          exact hgrow2
        have hkeep : ∀ g, g < w.heap.size + 1 → w2.heap[g]? = wr.heap[g]? := fun g hx => by
          rw [hg2.block g (by simp; omega) (fun e => by have := (hown g e.symm).1; omega), Below.heap_alloc _ _ _ (by omega), hbelA.block g (by omega)]
        have hgoal : Below w.heap.size w w2 := ⟨(hg2.os.trans hbelA.os).trans hbel.os, (hg2.tape.trans hbelA.tape).trans hbel.tape, (hg2.output.trans hbelA.output).trans hbel.output, by omega, fun g hx => by rw [hkeep g (by omega), hbel.block g hx]⟩
        have hb0' : Blk w2 w.heap.size 27 zeroCells := (hkeep _ (by omega)).trans hb0
        have HG2 := hide (And.intro hgrow2' (And.intro hgoal hb0'))
        clear hgrow2' hgoal hown hgrow hbelA hgrow2 hg2 hkeep hb0 hb0' hbel hsk hgA
        go_wp2_with fail
        go_roundw
        case rel => exact ⟨k + 1, bs, by go_num, by omega, HG2.out⟩
        case measure => simp [intOf]; omega
      · subst h
        go_wp2_with fail
        refine wpAnyT_done (by kernel_rfl) ?_ _
        go_wp2_with fail
        refine (bytes_any 0 0 0 (IntKind.u64.wrap (2 ^ (s[k].toNat % 64))) _).mono ?_
        rintro e w1 ⟨rfl, hbel2⟩
        have hz2 := hbel2.size
        simp only [World.size_drew, World.size_alloc] at hz2
        have hbelA : Below wr.heap.size wr w1 := (((Below.refl _ _).alloc (Nat.le_refl _) _).drew).trans (hbel2.mono (by simp))
        clear hbel2
        obtain ⟨hgrow, hbel, hb0, hsk, hsl⟩ := HG.out
        have hgA := hide (fun X => (hgrow.below hbelA).below ((Below.refl _ _).alloc (Nat.le_refl _) X))
        have z0 := hbel.size
        have hbwr := hide hbelA
        clear hbelA hgrow hbel hb0 hsk
        go_wp2_with (at_builtin; refine wpList_append_node rfl _ _ rfl (w.heap.size + 1) _ ((T.texts s).take k) bs rfl (hgA.out _) (.mk ⟨2, 0, 0, 0, (IntKind.u64.wrap (2 ^ (s[k].toNat % 64))), 0, 0, 0, false⟩ []) none 0 w1.heap.size _ [] rfl (Blk.new _ _ _) (.inl ⟨rfl, rfl⟩) List.nodup_nil (by simp) hsl (by simp; omega) ?_)
        intro v' w2 hgrow2 hg2
        have hz3 := hg2.size
        rw [World.size_alloc] at hz3
        have hbelA := hbwr.out
        obtain ⟨hgrow, hbel, hb0, hsk, _⟩ := HG.out
        have hown : ∀ g, u3.ownBlock = some g → w.heap.size + 1 ≤ g ∧ g < wr.heap.size := by
          obtain ⟨xs, q1, _⟩ := hgrow
          exact q1.lt
        have hgrow2' : GrowT (w.heap.size + 1) w2 v' ((T.texts s).take (k + 1)) bs := by
          rw [show (T.texts s).take (k + 1) = (T.texts s).take k ++ [.mk ⟨2, 0, 0, 0, (IntKind.u64.wrap (2 ^ (s[k].toNat % 64))), 0, 0, 0, false⟩ []] from by
            rw [List.take_add_one, hsk]
            have := hb.out
            simp [T.byte, word, ← this]]
          exact hgrow2
        have hkeep : ∀ g, g < w.heap.size + 1 → w2.heap[g]? = wr.heap[g]? := fun g hx => by
          rw [hg2.block g (by simp; omega) (fun e => by have := (hown g e.symm).1; omega), Below.heap_alloc _ _ _ (by omega), hbelA.block g (by omega)]
        have hgoal : Below w.heap.size w w2 := ⟨(hg2.os.trans hbelA.os).trans hbel.os, (hg2.tape.trans hbelA.tape).trans hbel.tape, (hg2.output.trans hbelA.output).trans hbel.output, by omega, fun g hx => by rw [hkeep g (by omega), hbel.block g hx]⟩
        have hb0' : Blk w2 w.heap.size 27 zeroCells := (hkeep _ (by omega)).trans hb0
        have HG2 := hide (And.intro hgrow2' (And.intro hgoal hb0'))
        clear hgrow2' hgoal hown hgrow hbelA hgrow2 hg2 hkeep hb0 hb0' hbel hsk hgA
        go_wp2_with fail
        go_roundw
        case rel => exact ⟨k + 1, bs, by go_num, by omega, HG2.out⟩
        case measure => simp [intOf]; omega
    · have hke : k = s.size := by omega
      have hl : (T.texts s).length = s.size := by simp only [T.texts, List.length_map]; exact Array.length_toList
      rw [hke, ← hl, List.take_length] at hgrow
      obtain ⟨A, c, bs', rfl, hown, hnd, hfr⟩ := hgrow.own ⟨0, 0, 0, 0, 0, 0, 0, 0, false⟩
      have HS := hide (seq_any (T.texts s) A c wr (by unfold T.texts; rw [T.texts_nodes, Array.length_toList]; exact Nat.le_trans hs (by decide)) (T.In_iff.1 (hown.in_ fun b hb => (hfr b hb).2)))
      clear hown hgrow hfr hl
      go_wp2_with fail
      refine HS.out.mono ?_
      rintro e w1 ⟨B, c', bs2, rfl, hown, hnd2, hfr, hbel2⟩
      have hz2 := hbel2.size
      have hb1 : Blk w1 w.heap.size 27 zeroCells := hb0.below hbel2 z0
      have hbw := hbel.trans (hbel2.mono hbel.size)
      go_wp2_with (refine wpList_store_row rfl _ _ _ rfl w.heap.size 0 _ _ _ rfl rfl hb1 Tryd.sizeNode (by simp [zeroCells, Hd.cells_length]) (fun u hu => cells_one (T.seq (T.texts s)).hd B (T.seq (T.texts s)).subs.length c' u (by simpa using hu)) ?_)
      intro w2 hrow2 hg2 hz3
      have hrow2' := hrow2.out
      rw [splice_all (by simp [Hd.cells_length, zeroCells])] at hrow2'
      go_wp2_with fail
      refine bodyPost_ret (results_cell_row rfl _ _ w.heap.size _ _ (0, 0) _ rfl hrow2' Tryd.underlying27 rfl Tryd.sizeNode) rfl ?_
      refine ⟨B, c', bs2, by simp [Hd.cells], hown.same fun b hb => hg2.block b (hfr b hb).2 (fun e => ?_), hnd2, fun b hb => ?_, hbw.grown hg2 hbw.size (fun k hk => by injection hk with hk; omega)⟩
      · injection e with e
        have := (hfr b hb).1
        omega
      · have := hfr b hb
        omega

end Go.Proofs.YtbbhobojghmkpaaDoor

/-! ## Plan23 -/
namespace Go.Proofs.YtbbhobojghmkpaaDoor
open Go.RowKit

/-- Does a node take nothing for sure? -/
def nothK (h : Hd) (l : List Bool) : Bool :=
  if h.kind = 2 then (h.s0 == 0 && h.s1 == 0 && h.s2 == 0 && h.s3 == 0)
  else if h.kind = 6 then l.all id
  else if h.kind = 8 then (if h.min = 0 then false else l.any id)
  else if h.kind = 5 ∨ h.kind = 7 then l.any id else false
mutual
def T.nothing : T → Bool
  | .mk h l => nothK h (TL.noths l)
def TL.noths : List T → List Bool
  | [] => []
  | t :: r => t.nothing :: TL.noths r
end
set_option maxRecDepth 100000 in
set_option maxHeartbeats 2000000 in
theorem nothing_any (N : Nat) : ∀ (t : T) (A : Option Addr) (c : Nat) (w : World), t.nodes ≤ N → N ≤ 1000000 → t.form = true → t.wf → T.In w (· < w.heap.size) t A →
    Calls Tryd.prog 62 #[.agg (t.hd.cells (.slice A t.subs.length c)).toArray] w fun e w' => e = .returned (.bool t.nothing) ∧ Below w.heap.size w w' := by
  induction N with
  | zero => intro t A c w h; have := t.nodes_pos; omega
  | succ N ih =>
    intro t A c w hN hM hf hwf hin
    have hkind := T.form_kind hf
    have hfs := T.form_mem_sub hf
    have hws := T.wf_sub hwf
    obtain ⟨h, l⟩ := t
    have hlen0 := T.length_lt (T.mk h l)
    obtain ⟨res, hres⟩ : ∃ r, r = (T.mk h l).nothing := ⟨_, rfl⟩
    rw [← hres]
    rw [T.nothing] at hres
    obtain ⟨kind, s0, s1, s2, s3, num, mn, mx, bare⟩ := h
    simp only [T.nodes, T.hd, T.subs, Hd.cells] at hlen0 hN hkind hfs hws ⊢
    have hbel := (Below.refl w.heap.size w).alloc (Nat.le_refl _) (.cells #[.int .i64 kind, .int .u64 s0, .int .u64 s1, .int .u64 s2, .int .u64 s3, .slice A l.length c, .int .i64 num, .int .i64 mn, .int .i64 mx, .bool bare] 27)
    have hb0 := Blk.new w 27 #[.int .i64 kind, .int .u64 s0, .int .u64 s1, .int .u64 s2, .int .u64 s3, .slice A l.length c, .int .i64 num, .int .i64 mn, .int .i64 mx, .bool bare]
    have H0 := hide (And.intro hb0 hbel)
    have hin2 := hin.next hbel
    have c0 := hb0.cell
    have HIH := hide (fun (s : T) (hs : s ∈ l) (B : Option Addr) (c' : Nat) (y : World) (hi : T.In y (· < y.heap.size) s B) => ih s B c' y (by have := TL.nodes_mem hs; omega) (by omega) (hfs s hs) (hws s hs) hi)
    clear ih hf hwf hin hfs hws hb0 hbel
    rcases hkind with hk | hk | hk | hk | hk | hk | ⟨hk, hl1⟩ | ⟨hk, hl1⟩
    · subst hk
      have HR := hide (show res = false by rw [hres]; unfold nothK; rfl)
      clear hres hin2
      go_enter Tryd.func62, Tryd.ntmps62
      go_wp2_with fail
      refine bodyPost_ret (v := .bool false) (by simp [results, Tryd.results62, go_sem]) rfl ?_
      exact ⟨by rw [HR.out], H0.out.2⟩
    · subst hk
      have HR := hide (show res = false by rw [hres]; unfold nothK; rfl)
      clear hres hin2
      go_enter Tryd.func62, Tryd.ntmps62
      go_wp2_with fail
      refine bodyPost_ret (v := .bool false) (by simp [results, Tryd.results62, go_sem]) rfl ?_
      exact ⟨by rw [HR.out], H0.out.2⟩
    · subst hk
      have HR := hide (show res = false by rw [hres]; unfold nothK; rfl)
      clear hres hin2
      go_enter Tryd.func62, Tryd.ntmps62
      go_wp2_with fail
      refine bodyPost_ret (v := .bool false) (by simp [results, Tryd.results62, go_sem]) rfl ?_
      exact ⟨by rw [HR.out], H0.out.2⟩
    · subst hk
      have HR := hide (show res = (s0 == 0 && s1 == 0 && s2 == 0 && s3 == 0) by rw [hres]; unfold nothK; rfl)
      have hes := fun W => run_eql_set W s0 s1 s2 s3 0 0 0 0
      clear hres hin2
      go_enter Tryd.func62, Tryd.ntmps62
      go_wp2_with fail
      refine bodyPost_ret (v := .bool (s0 == 0 && s1 == 0 && s2 == 0 && s3 == 0)) (by simp [results, Tryd.results62, go_sem]) rfl ?_
      exact ⟨by rw [HR.out], H0.out.2⟩
    · subst hk
      have HR := hide (show res = (TL.noths l).any id by rw [hres]; unfold nothK; rfl)
      clear hres
      go_enter Tryd.func62, Tryd.ntmps62
      go_upto_region 1 with fail
      generalize (w.alloc (.cells #[.int .i64 5, .int .u64 s0, .int .u64 s1, .int .u64 s2, .int .u64 s3, .slice A l.length c, .int .i64 num, .int .i64 mn, .int .i64 mx, .bool bare] 27)) = W at *
      go_wp2_with fail
      have HIN := hide hin2
      clear hin2 c0
      go_loopw [39] (fun kv wr => ∃ k : Nat, kv = .int .i64 (k : Int) ∧ k ≤ l.length ∧ (TL.noths (l.drop k)).any id = res ∧ Blk wr w.heap.size 27 #[.int .i64 5, .int .u64 s0, .int .u64 s1, .int .u64 s2, .int .u64 s3, .slice A l.length c, .int .i64 num, .int .i64 mn, .int .i64 mx, .bool bare] ∧ Below W.heap.size W wr) (fun kv _ => l.length - (intOf kv).toNat)
      case atStart => exact ⟨0, rfl, Nat.zero_le _, by rw [List.drop_zero, ← HR.out], H0.out.1, Below.refl _ _⟩
      case round =>
        obtain ⟨k, rfl, hk, hinv, hbx, hbel⟩ := hrel
        have HH := hide (And.intro hbx hbel)
        have HV := hide hinv
        have hzb0 := hbx.lt
        clear hinv
        by_cases hlt : k < l.length
        case neg =>
          have g1 : decide ((k : Int) < (l.length : Int)) = false := decide_eq_false (by omega)
          have hke : k = l.length := by omega
          subst hke
          have HE := hide (show res = false by rw [← HV.out, List.drop_eq_nil_of_le (Nat.le_refl _)]; rfl)
          clear hbx hbel
          go_wp2_with fail
          refine bodyPost_ret (v := .bool false) (by simp [results, Tryd.results62, go_sem]) rfl ?_
          exact ⟨by rw [HE.out], H0.out.2.trans (HH.out.2.mono H0.out.2.size)⟩
        case pos =>
          have g1 : decide ((k : Int) < (l.length : Int)) = true := decide_eq_true (by omega)
          have hs := List.getElem?_eq_getElem hlt
          obtain ⟨b, ofs, B, c', rfl, hbk, hcs, hsub⟩ := TL.In.at_ (T.In_iff.1 HIN.out) hs
          have hmem := List.getElem_mem hlt
          have hdrop : l.drop k = l[k] :: l.drop (k + 1) := List.drop_eq_getElem_cons hlt
          have heq := HV.out
          have HX := hide (fun (y : World) (hi : T.In y (· < y.heap.size) (l[k]'hlt) B) => HIH.out (l[k]'hlt) hmem B c' y hi)
          rw [hdrop, TL.noths, List.any_cons] at heq
          generalize l[k] = s at *
          obtain ⟨n0, n1, n2, n3, n4, n5, n6, n7, n8, n9⟩ := (hcs.same (same_of_below hbel) hbk).node
          have HQ := hide heq
          have hsub2 := hsub.next hbel
          have hzb := Blk.new wr 27 zeroCells
          have hal := (Below.refl wr.heap.size wr).alloc (Nat.le_refl _) (.cells zeroCells 27)
          unfold zeroCells at hzb hal
          have c0 := hbx.cell
          clear hs hcs heq hdrop hmem hsub HV hbx hbel
          go_wp2_with (first | refine wpList_store_row rfl _ _ _ rfl wr.heap.size 0 _ _ _ rfl rfl hzb Tryd.sizeNode (by simp) (by simp [Value.oneCell']) ?_)
          intro w5 hrow2 hg9 hz9
          have hrow := hrow2.out
          rw [splice_full (by rfl)] at hrow
          have hbE : Below wr.heap.size wr w5 := below_grew hal hg9 (Nat.le_refl _) (fun q hq => by rw [← Option.some.inj hq]; exact Nat.le_refl _)
          have c5 := hrow.cell
          have HH5 := hide (And.intro (HH.out.1.next hbE) (HH.out.2.trans (hbE.mono HH.out.2.size)))
          have HI5 := hide (hsub2.next hbE)
          clear hrow2 hrow hg9 hz9 hal hzb hbE c0 n0 n1 n2 n3 n4 n5 n6 n7 n8 n9 hsub2 HH
          go_wp2_with fail
          refine (HX.out w5 HI5.out).mono ?_
          rintro e w6 ⟨rfl, hb6⟩
          have HH6 := hide (And.intro (HH5.out.1.next hb6) (HH5.out.2.trans (hb6.mono HH5.out.2.size)))
          clear hb6 HX HI5 HH5 c5
          generalize s.nothing = sn at *
          cases sn with
          | true =>
            have HE := hide (show res = true by rw [← HQ.out]; rfl)
            go_wp2_with fail
            refine bodyPost_ret (v := .bool true) (by simp [results, Tryd.results62, go_sem]) rfl ?_
            exact ⟨by rw [HE.out], H0.out.2.trans (HH6.out.2.mono H0.out.2.size)⟩
          | false =>
            have HE := hide (show (TL.noths (l.drop (k + 1))).any id = res by rw [← HQ.out]; rfl)
            go_wp2_with fail
            go_roundw
            case rel => exact ⟨k + 1, by go_num, hlt, HE.out, HH6.out.1, HH6.out.2⟩
            case measure => simp [intOf]; omega
    · subst hk
      have HR := hide (show res = (TL.noths l).all id by rw [hres]; unfold nothK; rfl)
      clear hres
      go_enter Tryd.func62, Tryd.ntmps62
      go_upto_region 1 with fail
      generalize (w.alloc (.cells #[.int .i64 6, .int .u64 s0, .int .u64 s1, .int .u64 s2, .int .u64 s3, .slice A l.length c, .int .i64 num, .int .i64 mn, .int .i64 mx, .bool bare] 27)) = W at *
      go_wp2_with fail
      have HIN := hide hin2
      clear hin2 c0
      go_loopw [25] (fun kv wr => ∃ k : Nat, kv = .int .i64 (k : Int) ∧ k ≤ l.length ∧ (TL.noths (l.drop k)).all id = res ∧ Blk wr w.heap.size 27 #[.int .i64 6, .int .u64 s0, .int .u64 s1, .int .u64 s2, .int .u64 s3, .slice A l.length c, .int .i64 num, .int .i64 mn, .int .i64 mx, .bool bare] ∧ Below W.heap.size W wr) (fun kv _ => l.length - (intOf kv).toNat)
      case atStart => exact ⟨0, rfl, Nat.zero_le _, by rw [List.drop_zero, ← HR.out], H0.out.1, Below.refl _ _⟩
      case round =>
        obtain ⟨k, rfl, hk, hinv, hbx, hbel⟩ := hrel
        have HH := hide (And.intro hbx hbel)
        have HV := hide hinv
        have hzb0 := hbx.lt
        clear hinv
        by_cases hlt : k < l.length
        case neg =>
          have g1 : decide ((k : Int) < (l.length : Int)) = false := decide_eq_false (by omega)
          have hke : k = l.length := by omega
          subst hke
          have HE := hide (show res = true by rw [← HV.out, List.drop_eq_nil_of_le (Nat.le_refl _)]; rfl)
          clear hbx hbel
          go_wp2_with fail
          refine bodyPost_ret (v := .bool true) (by simp [results, Tryd.results62, go_sem]) rfl ?_
          exact ⟨by rw [HE.out], H0.out.2.trans (HH.out.2.mono H0.out.2.size)⟩
        case pos =>
          have g1 : decide ((k : Int) < (l.length : Int)) = true := decide_eq_true (by omega)
          have hs := List.getElem?_eq_getElem hlt
          obtain ⟨b, ofs, B, c', rfl, hbk, hcs, hsub⟩ := TL.In.at_ (T.In_iff.1 HIN.out) hs
          have hmem := List.getElem_mem hlt
          have hdrop : l.drop k = l[k] :: l.drop (k + 1) := List.drop_eq_getElem_cons hlt
          have heq := HV.out
          have HX := hide (fun (y : World) (hi : T.In y (· < y.heap.size) (l[k]'hlt) B) => HIH.out (l[k]'hlt) hmem B c' y hi)
          rw [hdrop, TL.noths, List.all_cons] at heq
          generalize l[k] = s at *
          obtain ⟨n0, n1, n2, n3, n4, n5, n6, n7, n8, n9⟩ := (hcs.same (same_of_below hbel) hbk).node
          have HQ := hide heq
          have hsub2 := hsub.next hbel
          have hzb := Blk.new wr 27 zeroCells
          have hal := (Below.refl wr.heap.size wr).alloc (Nat.le_refl _) (.cells zeroCells 27)
          unfold zeroCells at hzb hal
          have c0 := hbx.cell
          clear hs hcs heq hdrop hmem hsub HV hbx hbel
          go_wp2_with (first | refine wpList_store_row rfl _ _ _ rfl wr.heap.size 0 _ _ _ rfl rfl hzb Tryd.sizeNode (by simp) (by simp [Value.oneCell']) ?_)
          intro w5 hrow2 hg9 hz9
          have hrow := hrow2.out
          rw [splice_full (by rfl)] at hrow
          have hbE : Below wr.heap.size wr w5 := below_grew hal hg9 (Nat.le_refl _) (fun q hq => by rw [← Option.some.inj hq]; exact Nat.le_refl _)
          have c5 := hrow.cell
          have HH5 := hide (And.intro (HH.out.1.next hbE) (HH.out.2.trans (hbE.mono HH.out.2.size)))
          have HI5 := hide (hsub2.next hbE)
          clear hrow2 hrow hg9 hz9 hal hzb hbE c0 n0 n1 n2 n3 n4 n5 n6 n7 n8 n9 hsub2 HH
          go_wp2_with fail
          refine (HX.out w5 HI5.out).mono ?_
          rintro e w6 ⟨rfl, hb6⟩
          have HH6 := hide (And.intro (HH5.out.1.next hb6) (HH5.out.2.trans (hb6.mono HH5.out.2.size)))
          clear hb6 HX HI5 HH5 c5
          generalize s.nothing = sn at *
          cases sn with
          | false =>
            have HE := hide (show res = false by rw [← HQ.out]; rfl)
            go_wp2_with fail
            refine bodyPost_ret (v := .bool false) (by simp [results, Tryd.results62, go_sem]) rfl ?_
            exact ⟨by rw [HE.out], H0.out.2.trans (HH6.out.2.mono H0.out.2.size)⟩
          | true =>
            have HE := hide (show (TL.noths (l.drop (k + 1))).all id = res by rw [← HQ.out]; rfl)
            go_wp2_with fail
            go_roundw
            case rel => exact ⟨k + 1, by go_num, hlt, HE.out, HH6.out.1, HH6.out.2⟩
            case measure => simp [intOf]; omega
    · subst hk
      clear hl1
      have HR := hide (show res = (TL.noths l).any id by rw [hres]; unfold nothK; rfl)
      clear hres
      go_enter Tryd.func62, Tryd.ntmps62
      go_upto_region 1 with fail
      generalize (w.alloc (.cells #[.int .i64 7, .int .u64 s0, .int .u64 s1, .int .u64 s2, .int .u64 s3, .slice A l.length c, .int .i64 num, .int .i64 mn, .int .i64 mx, .bool bare] 27)) = W at *
      go_wp2_with fail
      have HIN := hide hin2
      clear hin2 c0
      go_loopw [39] (fun kv wr => ∃ k : Nat, kv = .int .i64 (k : Int) ∧ k ≤ l.length ∧ (TL.noths (l.drop k)).any id = res ∧ Blk wr w.heap.size 27 #[.int .i64 7, .int .u64 s0, .int .u64 s1, .int .u64 s2, .int .u64 s3, .slice A l.length c, .int .i64 num, .int .i64 mn, .int .i64 mx, .bool bare] ∧ Below W.heap.size W wr) (fun kv _ => l.length - (intOf kv).toNat)
      case atStart => exact ⟨0, rfl, Nat.zero_le _, by rw [List.drop_zero, ← HR.out], H0.out.1, Below.refl _ _⟩
      case round =>
        obtain ⟨k, rfl, hk, hinv, hbx, hbel⟩ := hrel
        have HH := hide (And.intro hbx hbel)
        have HV := hide hinv
        have hzb0 := hbx.lt
        clear hinv
        by_cases hlt : k < l.length
        case neg =>
          have g1 : decide ((k : Int) < (l.length : Int)) = false := decide_eq_false (by omega)
          have hke : k = l.length := by omega
          subst hke
          have HE := hide (show res = false by rw [← HV.out, List.drop_eq_nil_of_le (Nat.le_refl _)]; rfl)
          clear hbx hbel
          go_wp2_with fail
          refine bodyPost_ret (v := .bool false) (by simp [results, Tryd.results62, go_sem]) rfl ?_
          exact ⟨by rw [HE.out], H0.out.2.trans (HH.out.2.mono H0.out.2.size)⟩
        case pos =>
          have g1 : decide ((k : Int) < (l.length : Int)) = true := decide_eq_true (by omega)
          have hs := List.getElem?_eq_getElem hlt
          obtain ⟨b, ofs, B, c', rfl, hbk, hcs, hsub⟩ := TL.In.at_ (T.In_iff.1 HIN.out) hs
          have hmem := List.getElem_mem hlt
          have hdrop : l.drop k = l[k] :: l.drop (k + 1) := List.drop_eq_getElem_cons hlt
          have heq := HV.out
          have HX := hide (fun (y : World) (hi : T.In y (· < y.heap.size) (l[k]'hlt) B) => HIH.out (l[k]'hlt) hmem B c' y hi)
          rw [hdrop, TL.noths, List.any_cons] at heq
          generalize l[k] = s at *
          obtain ⟨n0, n1, n2, n3, n4, n5, n6, n7, n8, n9⟩ := (hcs.same (same_of_below hbel) hbk).node
          have HQ := hide heq
          have hsub2 := hsub.next hbel
          have hzb := Blk.new wr 27 zeroCells
          have hal := (Below.refl wr.heap.size wr).alloc (Nat.le_refl _) (.cells zeroCells 27)
          unfold zeroCells at hzb hal
          have c0 := hbx.cell
          clear hs hcs heq hdrop hmem hsub HV hbx hbel
          go_wp2_with (first | refine wpList_store_row rfl _ _ _ rfl wr.heap.size 0 _ _ _ rfl rfl hzb Tryd.sizeNode (by simp) (by simp [Value.oneCell']) ?_)
          intro w5 hrow2 hg9 hz9
          have hrow := hrow2.out
          rw [splice_full (by rfl)] at hrow
          have hbE : Below wr.heap.size wr w5 := below_grew hal hg9 (Nat.le_refl _) (fun q hq => by rw [← Option.some.inj hq]; exact Nat.le_refl _)
          have c5 := hrow.cell
          have HH5 := hide (And.intro (HH.out.1.next hbE) (HH.out.2.trans (hbE.mono HH.out.2.size)))
          have HI5 := hide (hsub2.next hbE)
          clear hrow2 hrow hg9 hz9 hal hzb hbE c0 n0 n1 n2 n3 n4 n5 n6 n7 n8 n9 hsub2 HH
          go_wp2_with fail
          refine (HX.out w5 HI5.out).mono ?_
          rintro e w6 ⟨rfl, hb6⟩
          have HH6 := hide (And.intro (HH5.out.1.next hb6) (HH5.out.2.trans (hb6.mono HH5.out.2.size)))
          clear hb6 HX HI5 HH5 c5
          generalize s.nothing = sn at *
          cases sn with
          | true =>
            have HE := hide (show res = true by rw [← HQ.out]; rfl)
            go_wp2_with fail
            refine bodyPost_ret (v := .bool true) (by simp [results, Tryd.results62, go_sem]) rfl ?_
            exact ⟨by rw [HE.out], H0.out.2.trans (HH6.out.2.mono H0.out.2.size)⟩
          | false =>
            have HE := hide (show (TL.noths (l.drop (k + 1))).any id = res by rw [← HQ.out]; rfl)
            go_wp2_with fail
            go_roundw
            case rel => exact ⟨k + 1, by go_num, hlt, HE.out, HH6.out.1, HH6.out.2⟩
            case measure => simp [intOf]; omega
    · subst hk
      clear hl1
      by_cases hm : mn = 0
      · subst hm
        have HR := hide (show res = false by rw [hres]; unfold nothK; rfl)
        clear hres hin2
        go_enter Tryd.func62, Tryd.ntmps62
        go_wp2_with fail
        refine bodyPost_ret (v := .bool false) (by simp [results, Tryd.results62, go_sem]) rfl ?_
        exact ⟨by rw [HR.out], H0.out.2⟩
      · have hm2 : (mn == 0) = false := by rw [beq_eq_false_iff_ne]; exact hm
        have HR := hide (show res = (TL.noths l).any id by rw [hres]; unfold nothK; simp [hm])
        clear hres
        go_enter Tryd.func62, Tryd.ntmps62
        go_upto_region 1 with fail
        generalize (w.alloc (.cells #[.int .i64 8, .int .u64 s0, .int .u64 s1, .int .u64 s2, .int .u64 s3, .slice A l.length c, .int .i64 num, .int .i64 mn, .int .i64 mx, .bool bare] 27)) = W at *
        go_wp2_with fail
        have HIN := hide hin2
        clear hin2 c0
        go_loopw [39] (fun kv wr => ∃ k : Nat, kv = .int .i64 (k : Int) ∧ k ≤ l.length ∧ (TL.noths (l.drop k)).any id = res ∧ Blk wr w.heap.size 27 #[.int .i64 8, .int .u64 s0, .int .u64 s1, .int .u64 s2, .int .u64 s3, .slice A l.length c, .int .i64 num, .int .i64 mn, .int .i64 mx, .bool bare] ∧ Below W.heap.size W wr) (fun kv _ => l.length - (intOf kv).toNat)
        case atStart => exact ⟨0, rfl, Nat.zero_le _, by rw [List.drop_zero, ← HR.out], H0.out.1, Below.refl _ _⟩
        case round =>
          obtain ⟨k, rfl, hk, hinv, hbx, hbel⟩ := hrel
          have HH := hide (And.intro hbx hbel)
          have HV := hide hinv
          have hzb0 := hbx.lt
          clear hinv
          by_cases hlt : k < l.length
          case neg =>
            have g1 : decide ((k : Int) < (l.length : Int)) = false := decide_eq_false (by omega)
            have hke : k = l.length := by omega
            subst hke
            have HE := hide (show res = false by rw [← HV.out, List.drop_eq_nil_of_le (Nat.le_refl _)]; rfl)
            clear hbx hbel
            go_wp2_with fail
            refine bodyPost_ret (v := .bool false) (by simp [results, Tryd.results62, go_sem]) rfl ?_
            exact ⟨by rw [HE.out], H0.out.2.trans (HH.out.2.mono H0.out.2.size)⟩
          case pos =>
            have g1 : decide ((k : Int) < (l.length : Int)) = true := decide_eq_true (by omega)
            have hs := List.getElem?_eq_getElem hlt
            obtain ⟨b, ofs, B, c', rfl, hbk, hcs, hsub⟩ := TL.In.at_ (T.In_iff.1 HIN.out) hs
            have hmem := List.getElem_mem hlt
            have hdrop : l.drop k = l[k] :: l.drop (k + 1) := List.drop_eq_getElem_cons hlt
            have heq := HV.out
            have HX := hide (fun (y : World) (hi : T.In y (· < y.heap.size) (l[k]'hlt) B) => HIH.out (l[k]'hlt) hmem B c' y hi)
            rw [hdrop, TL.noths, List.any_cons] at heq
            generalize l[k] = s at *
            obtain ⟨n0, n1, n2, n3, n4, n5, n6, n7, n8, n9⟩ := (hcs.same (same_of_below hbel) hbk).node
            have HQ := hide heq
            have hsub2 := hsub.next hbel
            have hzb := Blk.new wr 27 zeroCells
            have hal := (Below.refl wr.heap.size wr).alloc (Nat.le_refl _) (.cells zeroCells 27)
            unfold zeroCells at hzb hal
            have c0 := hbx.cell
            clear hs hcs heq hdrop hmem hsub HV hbx hbel
            go_wp2_with (first | refine wpList_store_row rfl _ _ _ rfl wr.heap.size 0 _ _ _ rfl rfl hzb Tryd.sizeNode (by simp) (by simp [Value.oneCell']) ?_)
            intro w5 hrow2 hg9 hz9
            have hrow := hrow2.out
            rw [splice_full (by rfl)] at hrow
            have hbE : Below wr.heap.size wr w5 := below_grew hal hg9 (Nat.le_refl _) (fun q hq => by rw [← Option.some.inj hq]; exact Nat.le_refl _)
            have c5 := hrow.cell
            have HH5 := hide (And.intro (HH.out.1.next hbE) (HH.out.2.trans (hbE.mono HH.out.2.size)))
            have HI5 := hide (hsub2.next hbE)
            clear hrow2 hrow hg9 hz9 hal hzb hbE c0 n0 n1 n2 n3 n4 n5 n6 n7 n8 n9 hsub2 HH
            go_wp2_with fail
            refine (HX.out w5 HI5.out).mono ?_
            rintro e w6 ⟨rfl, hb6⟩
            have HH6 := hide (And.intro (HH5.out.1.next hb6) (HH5.out.2.trans (hb6.mono HH5.out.2.size)))
            clear hb6 HX HI5 HH5 c5
            generalize s.nothing = sn at *
            cases sn with
            | true =>
              have HE := hide (show res = true by rw [← HQ.out]; rfl)
              go_wp2_with fail
              refine bodyPost_ret (v := .bool true) (by simp [results, Tryd.results62, go_sem]) rfl ?_
              exact ⟨by rw [HE.out], H0.out.2.trans (HH6.out.2.mono H0.out.2.size)⟩
            | false =>
              have HE := hide (show (TL.noths (l.drop (k + 1))).any id = res by rw [← HQ.out]; rfl)
              go_wp2_with fail
              go_roundw
              case rel => exact ⟨k + 1, by go_num, hlt, HE.out, HH6.out.1, HH6.out.2⟩
              case measure => simp [intOf]; omega
theorem or23 {a b : Nat} (ha : a < 512) (hb : b < 512) : bits .or .i64 (a : Int) (b : Int) = ((a ||| b : Nat) : Int) := by
  have h : a ||| b < 512 := Nat.or_lt_two_pow (n := 9) ha hb
  show IntKind.i64.wrap ((BitVec.ofInt 64 (a : Int) ||| BitVec.ofInt 64 (b : Int)).toNat : Int) = _
  rw [BitVec.toNat_or, BitVec.ofInt_natCast, BitVec.ofInt_natCast, BitVec.toNat_ofNat, BitVec.toNat_ofNat, Nat.mod_eq_of_lt (by omega), Nat.mod_eq_of_lt (by omega)]
  unfold IntKind.wrap
  simp [IntKind.bits, IntKind.signed]
  omega
mutual
/-- The kinds of a tree, a bit each. -/
def T.kb : T → Nat
  | .mk h l => 2 ^ h.kind.toNat ||| TL.kb l
def TL.kb : List T → Nat
  | [] => 0
  | t :: r => t.kb ||| TL.kb r
end
mutual
theorem T.kb_lt : ∀ t : T, t.form = true → t.kb < 512
  | .mk h l, hf => by
    have hk := T.form_kind hf
    simp only [T.hd] at hk
    have h1 : h.kind.toNat ≤ 8 := by omega
    have h2 : 2 ^ h.kind.toNat < 2 ^ 9 := Nat.pow_lt_pow_right (by decide) (by omega)
    rw [T.kb]
    exact Nat.or_lt_two_pow (n := 9) h2 (TL.kb_lt l (fun s hs => T.form_mem_sub hf s hs))
theorem TL.kb_lt : ∀ l : List T, (∀ s ∈ l, s.form = true) → TL.kb l < 512
  | [], _ => by rw [TL.kb]; decide
  | t :: r, h => by
    rw [TL.kb]
    exact Nat.or_lt_two_pow (n := 9) (T.kb_lt t (h t (by simp))) (TL.kb_lt r fun s hs => h s (by simp [hs]))
end
set_option maxRecDepth 100000 in
set_option maxHeartbeats 2000000 in
theorem kinds_any (N : Nat) : ∀ (t : T) (A : Option Addr) (c : Nat) (w : World), t.nodes ≤ N → N ≤ 1000000 → t.form = true → T.In w (· < w.heap.size) t A →
    Calls Tryd.prog 61 #[.agg (t.hd.cells (.slice A t.subs.length c)).toArray] w fun e w' => e = .returned (.int .i64 (t.kb : Int)) ∧ Below w.heap.size w w' := by
  induction N with
  | zero => intro t A c w h; have := t.nodes_pos; omega
  | succ N ih =>
    intro t A c w hN hM hf hin
    have hkind := T.form_kind hf
    have hfs := T.form_mem_sub hf
    have hkb := T.kb_lt t hf
    obtain ⟨h, l⟩ := t
    have hlen0 := T.length_lt (T.mk h l)
    obtain ⟨res, hres⟩ : ∃ r, r = (T.mk h l).kb := ⟨_, rfl⟩
    rw [← hres] at hkb ⊢
    rw [T.kb] at hres
    obtain ⟨kind, s0, s1, s2, s3, num, mn, mx, bare⟩ := h
    simp only [T.nodes, T.hd, T.subs, Hd.cells] at hlen0 hN hkind hfs hres ⊢
    obtain ⟨q, rfl⟩ : ∃ q : Nat, kind = (q : Int) := ⟨kind.toNat, by omega⟩
    have hq8 : q ≤ 8 := by omega
    rw [Int.toNat_natCast] at hres
    have hp : 2 ^ q < 2 ^ 9 := Nat.pow_lt_pow_right (by decide) (by omega)
    have hpw : IntKind.i64.wrap ((2 : Int) ^ q) = ((2 ^ q : Nat) : Int) := by
      rw [← show ((2 ^ q : Nat) : Int) = (2 : Int) ^ q by simp]
      unfold IntKind.wrap
      simp only [IntKind.bits, IntKind.signed]
      generalize 2 ^ q = p at *
      simp
      omega
    have hq0 : (0 : Int) ≤ (q : Int) := by omega
    have hq64 : (q : Int) ≤ 64 := by omega
    have hbel := (Below.refl w.heap.size w).alloc (Nat.le_refl _) (.cells #[.int .i64 (q : Int), .int .u64 s0, .int .u64 s1, .int .u64 s2, .int .u64 s3, .slice A l.length c, .int .i64 num, .int .i64 mn, .int .i64 mx, .bool bare] 27)
    have hb0 := Blk.new w 27 #[.int .i64 (q : Int), .int .u64 s0, .int .u64 s1, .int .u64 s2, .int .u64 s3, .slice A l.length c, .int .i64 num, .int .i64 mn, .int .i64 mx, .bool bare]
    have H0 := hide (And.intro hb0 hbel)
    have hin2 := hin.next hbel
    have c0 := hb0.cell
    have HIH := hide (fun (s : T) (hs : s ∈ l) (B : Option Addr) (c' : Nat) (y : World) (hi : T.In y (· < y.heap.size) s B) => ih s B c' y (by have := TL.nodes_mem hs; omega) (by omega) (hfs s hs) hi)
    have HKB := hide (fun (s : T) (hs : s ∈ l) => T.kb_lt s (hfs s hs))
    have HR := hide hres
    clear ih hf hin hfs hb0 hbel hkind hres
    go_enter Tryd.func61, Tryd.ntmps61
    go_upto_region 1 with fail
    generalize (w.alloc (.cells #[.int .i64 (q : Int), .int .u64 s0, .int .u64 s1, .int .u64 s2, .int .u64 s3, .slice A l.length c, .int .i64 num, .int .i64 mn, .int .i64 mx, .bool bare] 27)) = W at *
    go_wp2_with fail
    have HIN := hide hin2
    clear hin2 c0
    go_loopw [3, 12] (fun av kv wr => ∃ (k acc : Nat), av = .int .i64 (acc : Int) ∧ kv = .int .i64 (k : Int) ∧ k ≤ l.length ∧ acc < 512 ∧ acc ||| TL.kb (l.drop k) = res ∧ Blk wr w.heap.size 27 #[.int .i64 (q : Int), .int .u64 s0, .int .u64 s1, .int .u64 s2, .int .u64 s3, .slice A l.length c, .int .i64 num, .int .i64 mn, .int .i64 mx, .bool bare] ∧ Below W.heap.size W wr) (fun _ kv _ => l.length - (intOf kv).toNat)
    case atStart => exact ⟨0, 2 ^ q, rfl, rfl, Nat.zero_le _, hp, by rw [List.drop_zero, ← HR.out], H0.out.1, Below.refl _ _⟩
    case round =>
      obtain ⟨k, acc, rfl, rfl, hk, hacc, hinv, hbx, hbel⟩ := hrel
      have HH := hide (And.intro hbx hbel)
      have HV := hide hinv
      have hzb0 := hbx.lt
      clear hinv
      by_cases hlt : k < l.length
      case neg =>
        have g1 : decide ((k : Int) < (l.length : Int)) = false := decide_eq_false (by omega)
        have hke : k = l.length := by omega
        subst hke
        have HE := hide (show res = acc by rw [← HV.out, List.drop_eq_nil_of_le (Nat.le_refl _), TL.kb, Nat.or_zero])
        clear hbx hbel
        go_wp2_with fail
        refine bodyPost_ret (v := .int .i64 (acc : Int)) (by simp [results, Tryd.results61, go_sem]) rfl ?_
        exact ⟨by rw [HE.out], H0.out.2.trans (HH.out.2.mono H0.out.2.size)⟩
      case pos =>
        have g1 : decide ((k : Int) < (l.length : Int)) = true := decide_eq_true (by omega)
        have hs := List.getElem?_eq_getElem hlt
        obtain ⟨b, ofs, B, c', rfl, hbk, hcs, hsub⟩ := TL.In.at_ (T.In_iff.1 HIN.out) hs
        have hmem := List.getElem_mem hlt
        have hdrop : l.drop k = l[k] :: l.drop (k + 1) := List.drop_eq_getElem_cons hlt
        have heq := HV.out
        have HX := hide (fun (y : World) (hi : T.In y (· < y.heap.size) (l[k]'hlt) B) => HIH.out (l[k]'hlt) hmem B c' y hi)
        have hsk := HKB.out _ hmem
        rw [hdrop, TL.kb, ← Nat.or_assoc] at heq
        generalize l[k] = s at *
        obtain ⟨n0, n1, n2, n3, n4, n5, n6, n7, n8, n9⟩ := (hcs.same (same_of_below hbel) hbk).node
        have HQ := hide heq
        have hsub2 := hsub.next hbel
        have hzb := Blk.new wr 27 zeroCells
        have hal := (Below.refl wr.heap.size wr).alloc (Nat.le_refl _) (.cells zeroCells 27)
        unfold zeroCells at hzb hal
        have c0 := hbx.cell
        clear hs hcs heq hdrop hmem hsub HV hbx hbel
        go_wp2_with (first | refine wpList_store_row rfl _ _ _ rfl wr.heap.size 0 _ _ _ rfl rfl hzb Tryd.sizeNode (by simp) (by simp [Value.oneCell']) ?_)
        intro w5 hrow2 hg9 hz9
        have hrow := hrow2.out
        rw [splice_full (by rfl)] at hrow
        have hbE : Below wr.heap.size wr w5 := below_grew hal hg9 (Nat.le_refl _) (fun q hq => by rw [← Option.some.inj hq]; exact Nat.le_refl _)
        have c5 := hrow.cell
        have HH5 := hide (And.intro (HH.out.1.next hbE) (HH.out.2.trans (hbE.mono HH.out.2.size)))
        have HI5 := hide (hsub2.next hbE)
        clear hrow2 hrow hg9 hz9 hal hzb hbE c0 n0 n1 n2 n3 n4 n5 n6 n7 n8 n9 hsub2 HH
        go_wp2_with fail
        refine (HX.out w5 HI5.out).mono ?_
        rintro e w6 ⟨rfl, hb6⟩
        have HH6 := hide (And.intro (HH5.out.1.next hb6) (HH5.out.2.trans (hb6.mono HH5.out.2.size)))
        clear hb6 HX HI5 HH5 c5
        generalize s.kb = sk at *
        have hor := or23 hacc hsk
        have HOR := hide (Nat.or_lt_two_pow (n := 9) hacc hsk)
        go_wp2_with fail
        go_roundw
        case rel => exact ⟨k + 1, acc ||| sk, by first | rfl | rw [hor], by go_num, hlt, HOR.out, HQ.out, HH6.out.1, HH6.out.2⟩
        case measure => simp [intOf]; omega
set_option maxRecDepth 100000 in
/-- The closure of Tags: a tag put to the others. -/
theorem put_any (v n : Nat) (is : Bool) (g : Nat) (w : World) (hb : Blk w g 3 #[.int .i64 (v : Int)]) (h1 : v < 512) (h2 : n < 512) : Calls Tryd.prog 60 #[.int .i64 (n : Int), .bool is, .pointer (some ⟨g, 0, none⟩)] w fun e w' => e = .returned (.tuple #[]) ∧ Blk w' g 3 #[.int .i64 ((v ||| (if is then n else 0) : Nat) : Int)] ∧ w.grownBy w' (some g) ∧ w'.heap.size = w.heap.size := by
  have c0 : ∀ i : Nat, _ = _ := hb.cell
  have f0 : ∀ i : Nat, _ = _ := hb.frozen
  have HB := hide hb
  have hor := or23 h1 h2
  cases is with
  | true =>
    clear hb
    go_enter Tryd.func60, Tryd.ntmps60
    go_wp2_with fail
    go_end0
    refine ⟨rfl, ?_, ⟨rfl, rfl, rfl, by simp, fun k _ hk => Below.heap_setCell _ _ _ _ (fun e => hk (by rw [e]))⟩, by simp⟩
    have := heap_setCell_same w g 0 _ _ (.int .i64 ((v ||| n : Nat) : Int)) HB.out
    exact this
  | false =>
    clear hb
    go_enter Tryd.func60, Tryd.ntmps60
    go_wp2_with fail
    go_end0
    exact ⟨rfl, by simpa using HB.out, ⟨rfl, rfl, rfl, Nat.le_refl _, fun _ _ _ => rfl⟩, rfl⟩
theorem kb_anchor : ∀ k : Fin 512, (bits .and .i64 (k.val : Int) 24 == 0) = !(k.val.testBit 3 || k.val.testBit 4) := by decide +kernel
theorem kb_group : ∀ k : Fin 512, (bits .and .i64 ((k.val : Int) / 128) 1 == 1) = k.val.testBit 7 := by decide +kernel
/-- The tags of a tree. -/
def tagsOf (a b c d e f : Bool) : Nat := (((((0 ||| (if a then 1 else 0)) ||| (if b then 2 else 0)) ||| (if c then 4 else 0)) ||| (if d then 8 else 0)) ||| (if e then 16 else 0)) ||| (if f then 32 else 0)
theorem tagsOf_sum : ∀ a b c d e f : Bool, ((tagsOf a b c d e f : Nat) : Int) = (if a then 1 else 0) + (if b then 2 else 0) + (if c then 4 else 0) + (if d then 8 else 0) + (if e then 16 else 0) + (if f then 32 else 0) := by decide
end Go.Proofs.YtbbhobojghmkpaaDoor

/-! ## Tags23 -/
namespace Go.Proofs.YtbbhobojghmkpaaDoor
open Go.RowKit

theorem cells_of_blk23 {w : World} {g : Nat} {ty : TypeId} {cs : List Value} (h : Blk w g ty cs.toArray) : CellsAt w ⟨g, 0, none⟩ cs := fun j u hu => by
  rw [Addr.add_lit, Nat.zero_add, h.cell, List.getElem?_toArray]
  exact hu
def T.anchor (t : T) : Bool := t.kb.testBit 3 || t.kb.testBit 4
def T.tags (t : T) : Nat := match t.check with
  | some _ => 0
  | none => tagsOf t.nothing t.mayNull (t.kb.testBit 7) t.anchor (t.only.isSome && !t.anchor) (!t.req.toList.isEmpty)
set_option maxRecDepth 100000 in
set_option maxHeartbeats 2000000 in
theorem tags_any (t : T) (A : Option Addr) (c : Nat) (w : World) (a : Nat → Addr) (hN : t.nodes ≤ 1000000) (hwf : t.wf) (hT : Tab w) (hE : Sent [0, 1, 2] w a) (hin : T.In w (· < w.heap.size) t A) :
    Calls Tryd.prog 27 #[.agg (t.hd.cells (.slice A t.subs.length c)).toArray] w fun e w' => e = .returned (.int .i64 (t.tags : Int)) ∧ Below w.heap.size w w' := by
  have HC := hide (fun (y : World) (hy : Below w.heap.size w y) => check_any t A c y a hN (hin.next hy) (hE.below hy))
  have HK := hide (fun (hf : t.form = true) (y : World) (hy : Below w.heap.size w y) => kinds_any 1000000 t A c y hN (Nat.le_refl _) hf (hin.next hy))
  have HF := hide (fun (y : World) (hy : Below w.heap.size w y) => firsts_any t A c y a hN hwf (hE.below hy) (hin.next hy))
  have HO := hide (fun (y : World) (hy : Below w.heap.size w y) => Only_any t A c y a hN hwf (hT.below hy) (hE.below hy) (hin.next hy))
  have HNo := hide (fun (hf : t.form = true) (y : World) (hy : Below w.heap.size w y) => nothing_any 1000000 t A c y hN (Nat.le_refl _) hf hwf (hin.next hy))
  have HRq := hide (fun (y : World) (hy : Below w.heap.size w y) => Required_any t A c y a hN hwf (hT.below hy) (hE.below hy) (hin.next hy))
  have hfc := @T.form_of_check0 t
  have hkl := T.kb_lt t
  obtain ⟨res, hres⟩ : ∃ r, r = t.tags := ⟨_, rfl⟩
  rw [← hres]
  unfold T.tags T.anchor at hres
  generalize t.check = ck at *
  clear hin hE hwf hT hN
  go_enter Tryd.func27, Tryd.ntmps27
  go_upto_region 1 with fail
  obtain ⟨w0, hw0⟩ : ∃ y, y = w.alloc (.cells (t.hd.cells (.slice A t.subs.length c)).toArray 27) := ⟨_, rfl⟩
  have hbW := (Below.refl w.heap.size w).alloc (Nat.le_refl _) (.cells (t.hd.cells (.slice A t.subs.length c)).toArray 27)
  have hk := Blk.new w 27 (t.hd.cells (.slice A t.subs.length c)).toArray
  rw [← hw0] at hbW hk
  have H0 := hide (And.intro hbW hk)
  rw [← hw0]
  clear hbW hk hw0
  cases ck with
  | some gk =>
    have hnn := fun W => run_eql_iface_nil (P := Tryd.prog) (w := W) 49 (by kernel_rfl) 169 (.pointer (some (a gk)))
    have HE := hide (show res = 0 from hres)
    clear hres hfc hkl
    unfold errOf errV at HC
    go_wp2_with (refine wpList_load_cells rfl 27 _ rfl ⟨w.heap.size, 0, none⟩ rfl (t.hd.cells (.slice A t.subs.length c)) _ Tryd.underlying27 rfl (by rw [Tryd.sizeNode]; simp [Hd.cells_length]) (cells_of_blk23 H0.out.2) ?_)
    refine (HC.out w0 H0.out.1).mono ?_
    rintro e w1 ⟨rfl, hb⟩
    have H1 := hide (H0.out.1.trans (hb.mono H0.out.1.size))
    clear hb HC H0
    go_wp2_with fail
    refine bodyPost_ret (v := .int .i64 0) (by simp [results, Tryd.results27, go_sem]) rfl ?_
    exact ⟨by rw [HE.out]; rfl, H1.out⟩
  | none =>
    have hfo := hfc rfl
    have hkl2 := hkl hfo
    simp only at hres HO HRq
    unfold errOf at HC
    have hka := kb_anchor ⟨t.kb, hkl2⟩
    have hkg := kb_group ⟨t.kb, hkl2⟩
    simp only at hka hkg
    clear hfc hkl
    generalize t.kb = kb at *
    generalize t.nothing = tn at *
    generalize t.mayNull = nb at *
    generalize t.firsts = F at *
    generalize t.only = on at *
    generalize t.req = rq at *
    generalize kb.testBit 7 = b7 at *
    generalize (kb.testBit 3 || kb.testBit 4) = ba at *
    have HR := hide hres
    clear hres
    go_wp2_with (refine wpList_load_cells rfl 27 _ rfl ⟨w.heap.size, 0, none⟩ rfl (t.hd.cells (.slice A t.subs.length c)) _ Tryd.underlying27 rfl (by rw [Tryd.sizeNode]; simp [Hd.cells_length]) (cells_of_blk23 H0.out.2) ?_)
    refine (HC.out w0 H0.out.1).mono ?_
    rintro e w1 ⟨rfl, hb⟩
    have H1 := hide (And.intro (H0.out.1.trans (hb.mono H0.out.1.size)) (H0.out.2.next hb))
    clear hb HC H0
    have hm := hmf
    go_upto_region 4 with fail
    have hbs := Blk.new w1 3 #[.int .i64 0]
    have hal := (Below.refl w1.heap.size w1).alloc (Nat.le_refl _) (.cells #[.int .i64 0] 3)
    generalize (w1.alloc (.cells #[.int .i64 0] 3)) = w2 at *
    have H2 := hide (And.intro (H1.out.1.trans (hal.mono H1.out.1.size)) (And.intro (H1.out.2.next hal) hbs))
    have hgn : w.heap.size < w1.heap.size := H1.out.2.lt
    clear hbs hal H1
    generalize w1.heap.size = g at *
    go_wp2_with (refine wpList_load_cells rfl 27 _ rfl ⟨w.heap.size, 0, none⟩ rfl (t.hd.cells (.slice A t.subs.length c)) _ Tryd.underlying27 rfl (by rw [Tryd.sizeNode]; simp [Hd.cells_length]) (cells_of_blk23 H2.out.2.1) ?_)
    refine (HK.out hfo w2 H2.out.1).mono ?_
    rintro e w3 ⟨rfl, hb⟩
    have H3 := hide (And.intro (H2.out.1.trans (hb.mono H2.out.1.size)) (And.intro (H2.out.2.1.next hb) (H2.out.2.2.next hb)))
    clear hb HK H2
    go_wp2_with (refine wpList_load_cells rfl 27 _ rfl ⟨w.heap.size, 0, none⟩ rfl (t.hd.cells (.slice A t.subs.length c)) _ Tryd.underlying27 rfl (by rw [Tryd.sizeNode]; simp [Hd.cells_length]) (cells_of_blk23 H3.out.2.1) ?_)
    refine (HF.out w3 H3.out.1).mono ?_
    rintro e w4 ⟨rfl, hb⟩
    have H4 := hide (And.intro (H3.out.1.trans (hb.mono H3.out.1.size)) (And.intro (H3.out.2.1.next hb) (H3.out.2.2.next hb)))
    clear hb HF H3
    unfold setV setC
    go_upto_region 8 with fail
    have hka2 : (bits .and .i64 (kb : Int) 24 != 0) = ba := by rw [bne, hka]; simp
    rw [hka2]
    have hal := (Below.refl w4.heap.size w4).alloc (Nat.le_refl _) (.cells (setC F).toArray 24)
    unfold setC at hal
    generalize (w4.alloc (.cells #[.int .u64 ((wd F 0 : Nat) : Int), .int .u64 ((wd F 1 : Nat) : Int), .int .u64 ((wd F 2 : Nat) : Int), .int .u64 ((wd F 3 : Nat) : Int)] 24)) = w5 at *
    have H5 := hide (And.intro (H4.out.1.trans (hal.mono H4.out.1.size)) (And.intro (H4.out.2.1.next hal) (H4.out.2.2.next hal)))
    clear hal H4 hka hka2
    go_wp2_with (refine wpList_load_cells rfl 27 _ rfl ⟨w.heap.size, 0, none⟩ rfl (t.hd.cells (.slice A t.subs.length c)) _ Tryd.underlying27 rfl (by rw [Tryd.sizeNode]; simp [Hd.cells_length]) (cells_of_blk23 H5.out.2.1) ?_)
    refine (HO.out w5 H5.out.1).mono ?_
    rintro e w6 ⟨rfl, hb⟩
    have H6 := hide (And.intro (H5.out.1.trans (hb.mono H5.out.1.size)) (And.intro (H5.out.2.1.next hb) (H5.out.2.2.next hb)))
    clear hb HO H5
    unfold optV
    generalize on.isSome = oi at *
    generalize on.getD ⟨#[]⟩ = os at *
    go_wp2_with (refine wpList_load_cells rfl 27 _ rfl ⟨w.heap.size, 0, none⟩ rfl (t.hd.cells (.slice A t.subs.length c)) _ Tryd.underlying27 rfl (by rw [Tryd.sizeNode]; simp [Hd.cells_length]) (cells_of_blk23 H6.out.2.1) ?_)
    refine (HNo.out hfo w6 H6.out.1).mono ?_
    rintro e w7 ⟨rfl, hb⟩
    have H7 := hide (And.intro (H6.out.1.trans (hb.mono H6.out.1.size)) (And.intro (H6.out.2.1.next hb) (H6.out.2.2.next hb)))
    clear hb HNo H6
    go_wp2_with fail
    refine (put_any (0) 1 tn g w7 H7.out.2.2 (by first | decide | exact hvH7) (by decide)).mono ?_
    rintro e w8 ⟨rfl, hbv, hgr, hzz⟩
    have H8 := hide (And.intro (below_grew H7.out.1 hgr (Nat.le_refl _) (fun q hq => by rw [← Option.some.inj hq]; omega)) (And.intro (H7.out.2.1.grown hgr (fun e => by have := Option.some.inj e; omega)) hbv))
    have hvH8 : (0) ||| (if tn then 1 else 0) < 512 := Nat.or_lt_two_pow (n := 9) (by first | decide | exact hvH7) (by split <;> decide)
    clear hbv hgr hzz H7
    go_wp2_with fail
    refine (put_any ((0) ||| (if tn then 1 else 0)) 2 nb g w8 H8.out.2.2 (by first | decide | exact hvH8) (by decide)).mono ?_
    rintro e w9 ⟨rfl, hbv, hgr, hzz⟩
    have H9 := hide (And.intro (below_grew H8.out.1 hgr (Nat.le_refl _) (fun q hq => by rw [← Option.some.inj hq]; omega)) (And.intro (H8.out.2.1.grown hgr (fun e => by have := Option.some.inj e; omega)) hbv))
    have hvH9 : ((0) ||| (if tn then 1 else 0)) ||| (if nb then 2 else 0) < 512 := Nat.or_lt_two_pow (n := 9) (by first | decide | exact hvH8) (by split <;> decide)
    clear hbv hgr hzz H8
    go_wp2_with fail
    refine (put_any (((0) ||| (if tn then 1 else 0)) ||| (if nb then 2 else 0)) 4 b7 g w9 H9.out.2.2 (by first | decide | exact hvH9) (by decide)).mono ?_
    rintro e w10 ⟨rfl, hbv, hgr, hzz⟩
    have H10 := hide (And.intro (below_grew H9.out.1 hgr (Nat.le_refl _) (fun q hq => by rw [← Option.some.inj hq]; omega)) (And.intro (H9.out.2.1.grown hgr (fun e => by have := Option.some.inj e; omega)) hbv))
    have hvH10 : (((0) ||| (if tn then 1 else 0)) ||| (if nb then 2 else 0)) ||| (if b7 then 4 else 0) < 512 := Nat.or_lt_two_pow (n := 9) (by first | decide | exact hvH9) (by split <;> decide)
    clear hbv hgr hzz H9
    go_wp2_with fail
    refine (put_any ((((0) ||| (if tn then 1 else 0)) ||| (if nb then 2 else 0)) ||| (if b7 then 4 else 0)) 8 ba g w10 H10.out.2.2 (by first | decide | exact hvH10) (by decide)).mono ?_
    rintro e w11 ⟨rfl, hbv, hgr, hzz⟩
    have H11 := hide (And.intro (below_grew H10.out.1 hgr (Nat.le_refl _) (fun q hq => by rw [← Option.some.inj hq]; omega)) (And.intro (H10.out.2.1.grown hgr (fun e => by have := Option.some.inj e; omega)) hbv))
    have hvH11 : ((((0) ||| (if tn then 1 else 0)) ||| (if nb then 2 else 0)) ||| (if b7 then 4 else 0)) ||| (if ba then 8 else 0) < 512 := Nat.or_lt_two_pow (n := 9) (by first | decide | exact hvH10) (by split <;> decide)
    clear hbv hgr hzz H10
    cases oi with
    | true =>
      cases ba with
      | true =>
        go_wp2_with fail
        refine (put_any (((((0) ||| (if tn then 1 else 0)) ||| (if nb then 2 else 0)) ||| (if b7 then 4 else 0)) ||| (if true then 8 else 0)) 16 false g w11 H11.out.2.2 (by first | decide | exact hvH11) (by decide)).mono ?_
        rintro e w12 ⟨rfl, hbv, hgr, hzz⟩
        have H12 := hide (And.intro (below_grew H11.out.1 hgr (Nat.le_refl _) (fun q hq => by rw [← Option.some.inj hq]; omega)) (And.intro (H11.out.2.1.grown hgr (fun e => by have := Option.some.inj e; omega)) hbv))
        have hvH12 : (((((0) ||| (if tn then 1 else 0)) ||| (if nb then 2 else 0)) ||| (if b7 then 4 else 0)) ||| (if true then 8 else 0)) ||| (if false then 16 else 0) < 512 := Nat.or_lt_two_pow (n := 9) (by first | decide | exact hvH11) (by split <;> decide)
        clear hbv hgr hzz H11
        go_wp2_with (refine wpList_load_cells rfl 27 _ rfl ⟨w.heap.size, 0, none⟩ rfl (t.hd.cells (.slice A t.subs.length c)) _ Tryd.underlying27 rfl (by rw [Tryd.sizeNode]; simp [Hd.cells_length]) (cells_of_blk23 H12.out.2.1) ?_)
        refine (HRq.out w12 H12.out.1).mono ?_
        rintro e w13 ⟨rfl, hb⟩
        have H13 := hide (And.intro (H12.out.1.trans (hb.mono H12.out.1.size)) (And.intro (H12.out.2.1.next hb) (H12.out.2.2.next hb)))
        have hvH13 := hvH12
        clear hb HRq H12
        go_wp2_with fail
        refine (put_any ((((((0) ||| (if tn then 1 else 0)) ||| (if nb then 2 else 0)) ||| (if b7 then 4 else 0)) ||| (if true then 8 else 0)) ||| (if false then 16 else 0)) 32 (!rq.toList.isEmpty) g w13 H13.out.2.2 hvH13 (by decide)).mono ?_
        rintro e w14 ⟨rfl, hbv, hgr, hzz⟩
        have H14 := hide (And.intro (below_grew H13.out.1 hgr (Nat.le_refl _) (fun q hq => by rw [← Option.some.inj hq]; omega)) hbv)
        clear hbv hgr hzz H13
        generalize rq.toList.isEmpty = re at *
        rw [show (((((0) ||| (if tn then 1 else 0)) ||| (if nb then 2 else 0)) ||| (if b7 then 4 else 0)) ||| (if true then 8 else 0)) ||| (if false then 16 else 0) ||| (if (!re) = true then 32 else 0) = res from HR.out.symm] at H14
        have c14 := H14.out.2.cell
        go_wp2_with fail
        refine bodyPost_ret (v := .int .i64 (res : Int)) (by simp [results, Tryd.results27, go_sem]) rfl ?_
        exact ⟨rfl, H14.out.1⟩
      | false =>
        go_wp2_with fail
        refine (put_any (((((0) ||| (if tn then 1 else 0)) ||| (if nb then 2 else 0)) ||| (if b7 then 4 else 0)) ||| (if false then 8 else 0)) 16 true g w11 H11.out.2.2 (by first | decide | exact hvH11) (by decide)).mono ?_
        rintro e w12 ⟨rfl, hbv, hgr, hzz⟩
        have H12 := hide (And.intro (below_grew H11.out.1 hgr (Nat.le_refl _) (fun q hq => by rw [← Option.some.inj hq]; omega)) (And.intro (H11.out.2.1.grown hgr (fun e => by have := Option.some.inj e; omega)) hbv))
        have hvH12 : (((((0) ||| (if tn then 1 else 0)) ||| (if nb then 2 else 0)) ||| (if b7 then 4 else 0)) ||| (if false then 8 else 0)) ||| (if true then 16 else 0) < 512 := Nat.or_lt_two_pow (n := 9) (by first | decide | exact hvH11) (by split <;> decide)
        clear hbv hgr hzz H11
        go_wp2_with (refine wpList_load_cells rfl 27 _ rfl ⟨w.heap.size, 0, none⟩ rfl (t.hd.cells (.slice A t.subs.length c)) _ Tryd.underlying27 rfl (by rw [Tryd.sizeNode]; simp [Hd.cells_length]) (cells_of_blk23 H12.out.2.1) ?_)
        refine (HRq.out w12 H12.out.1).mono ?_
        rintro e w13 ⟨rfl, hb⟩
        have H13 := hide (And.intro (H12.out.1.trans (hb.mono H12.out.1.size)) (And.intro (H12.out.2.1.next hb) (H12.out.2.2.next hb)))
        have hvH13 := hvH12
        clear hb HRq H12
        go_wp2_with fail
        refine (put_any ((((((0) ||| (if tn then 1 else 0)) ||| (if nb then 2 else 0)) ||| (if b7 then 4 else 0)) ||| (if false then 8 else 0)) ||| (if true then 16 else 0)) 32 (!rq.toList.isEmpty) g w13 H13.out.2.2 hvH13 (by decide)).mono ?_
        rintro e w14 ⟨rfl, hbv, hgr, hzz⟩
        have H14 := hide (And.intro (below_grew H13.out.1 hgr (Nat.le_refl _) (fun q hq => by rw [← Option.some.inj hq]; omega)) hbv)
        clear hbv hgr hzz H13
        generalize rq.toList.isEmpty = re at *
        rw [show (((((0) ||| (if tn then 1 else 0)) ||| (if nb then 2 else 0)) ||| (if b7 then 4 else 0)) ||| (if false then 8 else 0)) ||| (if true then 16 else 0) ||| (if (!re) = true then 32 else 0) = res from HR.out.symm] at H14
        have c14 := H14.out.2.cell
        go_wp2_with fail
        refine bodyPost_ret (v := .int .i64 (res : Int)) (by simp [results, Tryd.results27, go_sem]) rfl ?_
        exact ⟨rfl, H14.out.1⟩
    | false =>
      go_wp2_with fail
      refine (put_any (((((0) ||| (if tn then 1 else 0)) ||| (if nb then 2 else 0)) ||| (if b7 then 4 else 0)) ||| (if ba then 8 else 0)) 16 false g w11 H11.out.2.2 (by first | decide | exact hvH11) (by decide)).mono ?_
      rintro e w12 ⟨rfl, hbv, hgr, hzz⟩
      have H12 := hide (And.intro (below_grew H11.out.1 hgr (Nat.le_refl _) (fun q hq => by rw [← Option.some.inj hq]; omega)) (And.intro (H11.out.2.1.grown hgr (fun e => by have := Option.some.inj e; omega)) hbv))
      have hvH12 : (((((0) ||| (if tn then 1 else 0)) ||| (if nb then 2 else 0)) ||| (if b7 then 4 else 0)) ||| (if ba then 8 else 0)) ||| (if false then 16 else 0) < 512 := Nat.or_lt_two_pow (n := 9) (by first | decide | exact hvH11) (by split <;> decide)
      clear hbv hgr hzz H11
      go_wp2_with (refine wpList_load_cells rfl 27 _ rfl ⟨w.heap.size, 0, none⟩ rfl (t.hd.cells (.slice A t.subs.length c)) _ Tryd.underlying27 rfl (by rw [Tryd.sizeNode]; simp [Hd.cells_length]) (cells_of_blk23 H12.out.2.1) ?_)
      refine (HRq.out w12 H12.out.1).mono ?_
      rintro e w13 ⟨rfl, hb⟩
      have H13 := hide (And.intro (H12.out.1.trans (hb.mono H12.out.1.size)) (And.intro (H12.out.2.1.next hb) (H12.out.2.2.next hb)))
      have hvH13 := hvH12
      clear hb HRq H12
      go_wp2_with fail
      refine (put_any ((((((0) ||| (if tn then 1 else 0)) ||| (if nb then 2 else 0)) ||| (if b7 then 4 else 0)) ||| (if ba then 8 else 0)) ||| (if false then 16 else 0)) 32 (!rq.toList.isEmpty) g w13 H13.out.2.2 hvH13 (by decide)).mono ?_
      rintro e w14 ⟨rfl, hbv, hgr, hzz⟩
      have H14 := hide (And.intro (below_grew H13.out.1 hgr (Nat.le_refl _) (fun q hq => by rw [← Option.some.inj hq]; omega)) hbv)
      clear hbv hgr hzz H13
      generalize rq.toList.isEmpty = re at *
      rw [show (((((0) ||| (if tn then 1 else 0)) ||| (if nb then 2 else 0)) ||| (if b7 then 4 else 0)) ||| (if ba then 8 else 0)) ||| (if false then 16 else 0) ||| (if (!re) = true then 32 else 0) = res from HR.out.symm] at H14
      have c14 := H14.out.2.cell
      go_wp2_with fail
      refine bodyPost_ret (v := .int .i64 (res : Int)) (by simp [results, Tryd.results27, go_sem]) rfl ?_
      exact ⟨rfl, H14.out.1⟩
end Go.Proofs.YtbbhobojghmkpaaDoor

/-! ## Choose23 -/
namespace Go.Proofs.YtbbhobojghmkpaaDoor
open Go.RowKit

set_option maxRecDepth 100000 in
/-- The closure of Choose. -/
theorem has23_any (x n : Int) (b : Bool) (g : Nat) (w : World) (hb : Blk w g 3 #[.int .i64 x]) (hn : n ≠ 0) (h : bits .and .i64 x n = if b then n else 0) : Calls Tryd.prog 66 #[.int .i64 n, .pointer (some ⟨g, 0, none⟩)] w fun e w' => e = .returned (.bool b) ∧ w' = w := by
  have c0 : ∀ i : Nat, _ = _ := hb.cell
  have hv : (bits .and .i64 x n != 0) = b := by
    rw [h]
    cases b with
    | true => simpa using hn
    | false => rfl
  clear hb h
  go_enter Tryd.func66, Tryd.ntmps66
  go_wp2_with fail
  refine bodyPost_ret (v := .bool b) (by simp [results, Tryd.results66, go_sem, hv]) rfl ?_
  exact ⟨rfl, rfl⟩
end Go.Proofs.YtbbhobojghmkpaaDoor

/-! ## Tell23 -/
namespace Go.Proofs.YtbbhobojghmkpaaDoor
open Go.RowKit

def planV (e : Int) (k s : Bool) : Value := .agg #[.int .i64 e, .bool k, .bool s]
/-- An engine's word. -/
def wordOf (e : Int) : ByteArray := if e = 0 then ⟨#[110, 111, 110, 101]⟩ else if e = 1 then ⟨#[115, 101, 101, 107]⟩ else if e = 2 then ⟨#[99, 97, 99, 104, 101]⟩ else if e = 3 then ⟨#[114, 97, 110, 107, 101, 100]⟩ else ⟨#[63]⟩
def addW (k : Bool) (b t : ByteArray) : ByteArray := if k then b ++ t else b
/-- A plan in words. -/
def tellP (e : Int) (k s : Bool) : ByteArray := addW s (addW k (wordOf e) ⟨#[32, 115, 107, 105, 112]⟩) ⟨#[32, 115, 112, 97, 110, 115]⟩
set_option maxRecDepth 100000 in
set_option maxHeartbeats 1000000 in
theorem tell_any (e : Int) (k s : Bool) (w : World) : Calls Tryd.prog 31 #[planV e k s] w fun r w' => r = .returned (.string (tellP e k s)) ∧ Below w.heap.size w w' := by
  have hbW := (Below.refl w.heap.size w).alloc (Nat.le_refl _) (.cells #[.int .i64 e, .bool k, .bool s] 44)
  unfold planV
  by_cases e0 : e = 0
  · subst e0
    cases k <;> cases s <;> (
      go_enter Tryd.func31, Tryd.ntmps31
      go_wp2_with fail
      go_ret
      exact ⟨rfl, hbW⟩)
  by_cases e1 : e = 1
  · subst e1
    cases k <;> cases s <;> (
      go_enter Tryd.func31, Tryd.ntmps31
      go_wp2_with fail
      go_ret
      exact ⟨rfl, hbW⟩)
  by_cases e2 : e = 2
  · subst e2
    cases k <;> cases s <;> (
      go_enter Tryd.func31, Tryd.ntmps31
      go_wp2_with fail
      go_ret
      exact ⟨rfl, hbW⟩)
  by_cases e3 : e = 3
  · subst e3
    cases k <;> cases s <;> (
      go_enter Tryd.func31, Tryd.ntmps31
      go_wp2_with fail
      go_ret
      exact ⟨rfl, hbW⟩)
  have hw : wordOf e = ⟨#[63]⟩ := by unfold wordOf; rw [if_neg e0, if_neg e1, if_neg e2, if_neg e3]
  have q0 : (e == 0) = false := by simpa using e0
  have q1 : (e == 1) = false := by simpa using e1
  have q2 : (e == 2) = false := by simpa using e2
  have q3 : (e == 3) = false := by simpa using e3
  have HW := hide hw
  clear hw
  cases k <;> cases s <;> (
    go_enter Tryd.func31, Tryd.ntmps31
    go_wp2_with fail
    go_ret
    exact ⟨by unfold tellP; rw [HW.out]; rfl, hbW⟩)
end Go.Proofs.YtbbhobojghmkpaaDoor

/-! ## Pick23 -/
namespace Go.Proofs.YtbbhobojghmkpaaDoor
open Go.RowKit

def engI (b0 b3 b4 b5 : Bool) : Int := if b0 then 0 else if b4 then 1 else if b3 && !b5 then 3 else 2
/-- The plan for some tags. -/
def planOf (b0 b2 b3 b4 b5 w2 : Bool) : Value := planV (engI b0 b3 b4 b5) (engI b0 b3 b4 b5 == 2 && b5) (engI b0 b3 b4 b5 != 0 && b2 && w2)
theorem Blk.put23 {w : World} {g i : Nat} {t : TypeId} {cs : Array Value} (h : Blk w g t cs) (u : Value) : Blk (w.setCell ⟨g, i, none⟩ u) g t (cs.setIfInBounds i u) := heap_setCell_same w g i cs _ _ h
theorem Tryd.sizePlan : (Tryd.prog.info? 44).map (·.size) = some 3 := by kernel_rfl
theorem Tryd.planGuard : Tryd.prog.eqGuardType Tryd.prog.depth 44 = false := by kernel_rfl
theorem run_eql_plan (w : World) (a b : Int) (k l s r : Bool) : (binOp .eql 44 (.agg #[.int .i64 a, .bool k, .bool s]) (.agg #[.int .i64 b, .bool l, .bool r])).run Tryd.prog w = .ok (.bool (a == b && k == l && s == r)) w := by
  have u3 := Tryd.underlying3
  have a3 := Tryd.isAgg3
  have z3 := Tryd.sizeOf3
  have u4 := Tryd.underlying4
  have a4 := Tryd.isAgg4
  have z4 := Tryd.sizeOf4
  have hS : Tryd.prog.underlying 44 = some (.struct (Tryd.prog.fieldsOf 44)) := by kernel_rfl
  have hp : Tryd.prog.stoodInHeld 44 = false := by kernel_rfl
  rw [run_eql_struct, show (10000 : Nat) = 9999 + 1 from rfl, run_equalIn_agg w 9999 44 _ _ hS hp]
  simp only [Program.fieldsOf, Tryd.underlying44]
  go_simp
  by_cases h1 : a = b <;> by_cases h2 : k = l <;> by_cases h3 : s = r <;> simp [h1, h2, h3]
/-- What Choose keeps: the tags' box, the answer, the plan under way. -/
structure PkW (w : World) (x : Int) (e : Int) (k s : Bool) (y : World) : Prop where
  below : Below w.heap.size w y
  tags : Blk y w.heap.size 3 #[.int .i64 x]
  res : Blk y (w.heap.size + 1) 44 #[.int .i64 0, .bool false, .bool false]
  plan : Blk y (w.heap.size + 1 + 1) 44 #[.int .i64 e, .bool k, .bool s]
theorem PkW.put {w y : World} {x e e' : Int} {k s k' s' : Bool} (h : PkW w x e k s y) (i : Nat) (u : Value) (hc : (#[.int .i64 e, .bool k, .bool s] : Array Value).setIfInBounds i u = #[.int .i64 e', .bool k', .bool s']) : PkW w x e' k' s' (y.setCell ⟨w.heap.size + 1 + 1, i, none⟩ u) :=
  ⟨h.below.trans (show Below w.heap.size y (y.setCell ⟨w.heap.size + 1 + 1, i, none⟩ u) from ⟨rfl, rfl, rfl, by simp, fun b hb => Below.heap_setCell _ _ _ _ (show b ≠ w.heap.size + 1 + 1 by omega)⟩), h.tags.far (by show w.heap.size ≠ w.heap.size + 1 + 1; omega) u, h.res.far (by show w.heap.size + 1 ≠ w.heap.size + 1 + 1; omega) u, hc ▸ h.plan.put23 u⟩

set_option maxRecDepth 100000 in
set_option maxHeartbeats 2000000 in
theorem choose_gen (x n : Int) (b0 b2 b3 b4 b5 : Bool) (w : World) (h0 : bits .and .i64 x 1 = if b0 then 1 else 0) (h2 : bits .and .i64 x 4 = if b2 then 4 else 0) (h3 : bits .and .i64 x 8 = if b3 then 8 else 0) (h4 : bits .and .i64 x 16 = if b4 then 16 else 0) (h5 : bits .and .i64 x 32 = if b5 then 32 else 0) :
    Calls Tryd.prog 29 #[.int .i64 x, .int .i64 n] w fun e w' => e = .returned (planOf b0 b2 b3 b4 b5 (decide (2 ≤ n))) ∧ Below w.heap.size w w' := by
  have H0 := hide (fun (g : Nat) (y : World) (hk : Blk y g 3 #[.int .i64 x]) => has23_any x 1 b0 g y hk (by decide) h0)
  have H2 := hide (fun (g : Nat) (y : World) (hk : Blk y g 3 #[.int .i64 x]) => has23_any x 4 b2 g y hk (by decide) h2)
  have H3 := hide (fun (g : Nat) (y : World) (hk : Blk y g 3 #[.int .i64 x]) => has23_any x 8 b3 g y hk (by decide) h3)
  have H4 := hide (fun (g : Nat) (y : World) (hk : Blk y g 3 #[.int .i64 x]) => has23_any x 16 b4 g y hk (by decide) h4)
  have H5 := hide (fun (g : Nat) (y : World) (hk : Blk y g 3 #[.int .i64 x]) => has23_any x 32 b5 g y hk (by decide) h5)
  clear h0 h2 h3 h4 h5
  have hk1 := ((Blk.new w 3 #[.int .i64 x]).alloc (.cells #[.int .i64 0, .bool false, .bool false] 44)).alloc (.cells #[.int .i64 2, .bool false, .bool false] 44)
  have hk2 := (Blk.new (w.alloc (.cells #[.int .i64 x] 3)) 44 #[.int .i64 0, .bool false, .bool false]).alloc (.cells #[.int .i64 2, .bool false, .bool false] 44)
  have hk3 := Blk.new ((w.alloc (.cells #[.int .i64 x] 3)).alloc (.cells #[.int .i64 0, .bool false, .bool false] 44)) 44 #[.int .i64 2, .bool false, .bool false]
  rw [World.size_alloc] at hk2
  rw [World.size_alloc, World.size_alloc] at hk3
  have hbl := (((Below.refl w.heap.size w).alloc (Nat.le_refl _) (.cells #[.int .i64 x] 3)).alloc (by simp) (.cells #[.int .i64 0, .bool false, .bool false] 44)).alloc (by simp; omega) (.cells #[.int .i64 2, .bool false, .bool false] 44)
  have HW := hide (PkW.mk hbl hk1 hk2 hk3)
  clear hbl hk1 hk2 hk3
  go_enter Tryd.func29, Tryd.ntmps29
  go_upto_region 3 with fail
  generalize (((w.alloc (.cells #[.int .i64 x] 3)).alloc (.cells #[.int .i64 0, .bool false, .bool false] 44)).alloc (.cells #[.int .i64 2, .bool false, .bool false] 44)) = W at *
  go_wp2_with fail
  refine (H0.out _ W HW.out.tags).mono ?_
  rintro e w' ⟨rfl, rfl⟩
  have f := HW.out.plan.frozen
  have c := HW.out.plan.cell
  cases b0 with
  | true =>
    go_upto_region 9 with fail
    have HX := hide (HW.out.put (e' := 0) (k' := false) (s' := false) 0 (.int .i64 0) rfl)
    clear HW f c
    rename World => W0
    generalize (W0.setCell ⟨w.heap.size + 1 + 1, 0, none⟩ (.int .i64 0)) = W at *
    have f := HX.out.plan.frozen
    have c := HX.out.plan.cell
    go_upto_region 10 with fail
    have HY := hide (HX.out.put (e' := 0) (k' := false) (s' := false) 1 (.bool false) rfl)
    clear HX f c
    rename World => W1
    generalize (W1.setCell ⟨w.heap.size + 1 + 1, 1, none⟩ (.bool false)) = W at *
    have f := HY.out.plan.frozen
    have c := HY.out.plan.cell
    go_upto_region 11 with fail
    have HZ := hide (HY.out.put (e' := 0) (k' := false) (s' := false) 2 (.bool false) rfl)
    clear HY f c
    rename World => W2
    generalize (W2.setCell ⟨w.heap.size + 1 + 1, 2, none⟩ (.bool false)) = W at *
    have c := HZ.out.plan.cell
    go_wp2_with (refine wpList_store_row rfl _ _ _ rfl (w.heap.size + 1) 0 _ _ _ rfl rfl HZ.out.res Tryd.sizePlan (by simp) (by simp [Value.oneCell']) ?_)
    intro w9 hrow2 hg9 hz9
    have hrow := hrow2.out
    rw [splice_full (by rfl)] at hrow
    have hb9 := below_grew HZ.out.below hg9 (Nat.le_refl _) (fun q hq => by rw [← Option.some.inj hq]; omega)
    have HF := hide (And.intro hrow hb9)
    clear hrow hrow2 hg9 hz9 c HZ
    go_wp2_with fail
    refine bodyPost_ret (results_cell_row rfl _ _ (w.heap.size + 1) _ _ (0, 0) _ rfl HF.out.1 Tryd.underlying44 rfl Tryd.sizePlan) rfl ?_
    exact ⟨by simp [planOf, planV, engI], HF.out.2⟩
  | false =>
    go_wp2_with fail
    refine (H4.out _ _ HW.out.tags).mono ?_
    rintro e w' ⟨rfl, rfl⟩
    cases b4 with
    | true =>
      go_upto_region 9 with fail
      have HX := hide (HW.out.put (e' := 1) (k' := false) (s' := false) 0 (.int .i64 1) rfl)
      clear HW f c
      rename World => W0
      generalize (W0.setCell ⟨w.heap.size + 1 + 1, 0, none⟩ (.int .i64 1)) = W at *
      have f := HX.out.plan.frozen
      have c := HX.out.plan.cell
      go_upto_region 10 with fail
      have HY := hide (HX.out.put (e' := 1) (k' := false) (s' := false) 1 (.bool false) rfl)
      clear HX f c
      rename World => W1
      generalize (W1.setCell ⟨w.heap.size + 1 + 1, 1, none⟩ (.bool false)) = W at *
      have f := HY.out.plan.frozen
      have c := HY.out.plan.cell
      go_wp2_with fail
      refine (H2.out _ _ HY.out.tags).mono ?_
      rintro e w' ⟨rfl, rfl⟩
      cases b2 with
      | true =>
        go_upto_region 11 with fail
        have HZ := hide (HY.out.put (e' := 1) (k' := false) (s' := (decide (2 ≤ n))) 2 (.bool (decide (2 ≤ n))) rfl)
        clear HY f c
        rename World => W2
        generalize (W2.setCell ⟨w.heap.size + 1 + 1, 2, none⟩ (.bool (decide (2 ≤ n)))) = W at *
        have c := HZ.out.plan.cell
        go_wp2_with (refine wpList_store_row rfl _ _ _ rfl (w.heap.size + 1) 0 _ _ _ rfl rfl HZ.out.res Tryd.sizePlan (by simp) (by simp [Value.oneCell']) ?_)
        intro w9 hrow2 hg9 hz9
        have hrow := hrow2.out
        rw [splice_full (by rfl)] at hrow
        have hb9 := below_grew HZ.out.below hg9 (Nat.le_refl _) (fun q hq => by rw [← Option.some.inj hq]; omega)
        have HF := hide (And.intro hrow hb9)
        clear hrow hrow2 hg9 hz9 c HZ
        go_wp2_with fail
        refine bodyPost_ret (results_cell_row rfl _ _ (w.heap.size + 1) _ _ (0, 0) _ rfl HF.out.1 Tryd.underlying44 rfl Tryd.sizePlan) rfl ?_
        exact ⟨by simp [planOf, planV, engI], HF.out.2⟩
      | false =>
        go_upto_region 11 with fail
        have HZ := hide (HY.out.put (e' := 1) (k' := false) (s' := false) 2 (.bool false) rfl)
        clear HY f c
        rename World => W2
        generalize (W2.setCell ⟨w.heap.size + 1 + 1, 2, none⟩ (.bool false)) = W at *
        have c := HZ.out.plan.cell
        go_wp2_with (refine wpList_store_row rfl _ _ _ rfl (w.heap.size + 1) 0 _ _ _ rfl rfl HZ.out.res Tryd.sizePlan (by simp) (by simp [Value.oneCell']) ?_)
        intro w9 hrow2 hg9 hz9
        have hrow := hrow2.out
        rw [splice_full (by rfl)] at hrow
        have hb9 := below_grew HZ.out.below hg9 (Nat.le_refl _) (fun q hq => by rw [← Option.some.inj hq]; omega)
        have HF := hide (And.intro hrow hb9)
        clear hrow hrow2 hg9 hz9 c HZ
        go_wp2_with fail
        refine bodyPost_ret (results_cell_row rfl _ _ (w.heap.size + 1) _ _ (0, 0) _ rfl HF.out.1 Tryd.underlying44 rfl Tryd.sizePlan) rfl ?_
        exact ⟨by simp [planOf, planV, engI], HF.out.2⟩
    | false =>
      go_wp2_with fail
      refine (H3.out _ _ HW.out.tags).mono ?_
      rintro e w' ⟨rfl, rfl⟩
      cases b3 with
      | true =>
        go_wp2_with fail
        refine (H5.out _ _ HW.out.tags).mono ?_
        rintro e w' ⟨rfl, rfl⟩
        cases b5 with
        | true =>
          go_upto_region 9 with fail
          have HX := HW
          clear HW
          go_wp2_with fail
          refine (H5.out _ _ HX.out.tags).mono ?_
          rintro e w' ⟨rfl, rfl⟩
          go_upto_region 10 with fail
          have HY := hide (HX.out.put (e' := 2) (k' := true) (s' := false) 1 (.bool true) rfl)
          clear HX f c
          rename World => W1
          generalize (W1.setCell ⟨w.heap.size + 1 + 1, 1, none⟩ (.bool true)) = W at *
          have f := HY.out.plan.frozen
          have c := HY.out.plan.cell
          go_wp2_with fail
          refine (H2.out _ _ HY.out.tags).mono ?_
          rintro e w' ⟨rfl, rfl⟩
          cases b2 with
          | true =>
            go_upto_region 11 with fail
            have HZ := hide (HY.out.put (e' := 2) (k' := true) (s' := (decide (2 ≤ n))) 2 (.bool (decide (2 ≤ n))) rfl)
            clear HY f c
            rename World => W2
            generalize (W2.setCell ⟨w.heap.size + 1 + 1, 2, none⟩ (.bool (decide (2 ≤ n)))) = W at *
            have c := HZ.out.plan.cell
            go_wp2_with (refine wpList_store_row rfl _ _ _ rfl (w.heap.size + 1) 0 _ _ _ rfl rfl HZ.out.res Tryd.sizePlan (by simp) (by simp [Value.oneCell']) ?_)
            intro w9 hrow2 hg9 hz9
            have hrow := hrow2.out
            rw [splice_full (by rfl)] at hrow
            have hb9 := below_grew HZ.out.below hg9 (Nat.le_refl _) (fun q hq => by rw [← Option.some.inj hq]; omega)
            have HF := hide (And.intro hrow hb9)
            clear hrow hrow2 hg9 hz9 c HZ
            go_wp2_with fail
            refine bodyPost_ret (results_cell_row rfl _ _ (w.heap.size + 1) _ _ (0, 0) _ rfl HF.out.1 Tryd.underlying44 rfl Tryd.sizePlan) rfl ?_
            exact ⟨by simp [planOf, planV, engI], HF.out.2⟩
          | false =>
            go_upto_region 11 with fail
            have HZ := hide (HY.out.put (e' := 2) (k' := true) (s' := false) 2 (.bool false) rfl)
            clear HY f c
            rename World => W2
            generalize (W2.setCell ⟨w.heap.size + 1 + 1, 2, none⟩ (.bool false)) = W at *
            have c := HZ.out.plan.cell
            go_wp2_with (refine wpList_store_row rfl _ _ _ rfl (w.heap.size + 1) 0 _ _ _ rfl rfl HZ.out.res Tryd.sizePlan (by simp) (by simp [Value.oneCell']) ?_)
            intro w9 hrow2 hg9 hz9
            have hrow := hrow2.out
            rw [splice_full (by rfl)] at hrow
            have hb9 := below_grew HZ.out.below hg9 (Nat.le_refl _) (fun q hq => by rw [← Option.some.inj hq]; omega)
            have HF := hide (And.intro hrow hb9)
            clear hrow hrow2 hg9 hz9 c HZ
            go_wp2_with fail
            refine bodyPost_ret (results_cell_row rfl _ _ (w.heap.size + 1) _ _ (0, 0) _ rfl HF.out.1 Tryd.underlying44 rfl Tryd.sizePlan) rfl ?_
            exact ⟨by simp [planOf, planV, engI], HF.out.2⟩
        | false =>
          go_upto_region 9 with fail
          have HX := hide (HW.out.put (e' := 3) (k' := false) (s' := false) 0 (.int .i64 3) rfl)
          clear HW f c
          rename World => W0
          generalize (W0.setCell ⟨w.heap.size + 1 + 1, 0, none⟩ (.int .i64 3)) = W at *
          have f := HX.out.plan.frozen
          have c := HX.out.plan.cell
          go_upto_region 10 with fail
          have HY := hide (HX.out.put (e' := 3) (k' := false) (s' := false) 1 (.bool false) rfl)
          clear HX f c
          rename World => W1
          generalize (W1.setCell ⟨w.heap.size + 1 + 1, 1, none⟩ (.bool false)) = W at *
          have f := HY.out.plan.frozen
          have c := HY.out.plan.cell
          go_wp2_with fail
          refine (H2.out _ _ HY.out.tags).mono ?_
          rintro e w' ⟨rfl, rfl⟩
          cases b2 with
          | true =>
            go_upto_region 11 with fail
            have HZ := hide (HY.out.put (e' := 3) (k' := false) (s' := (decide (2 ≤ n))) 2 (.bool (decide (2 ≤ n))) rfl)
            clear HY f c
            rename World => W2
            generalize (W2.setCell ⟨w.heap.size + 1 + 1, 2, none⟩ (.bool (decide (2 ≤ n)))) = W at *
            have c := HZ.out.plan.cell
            go_wp2_with (refine wpList_store_row rfl _ _ _ rfl (w.heap.size + 1) 0 _ _ _ rfl rfl HZ.out.res Tryd.sizePlan (by simp) (by simp [Value.oneCell']) ?_)
            intro w9 hrow2 hg9 hz9
            have hrow := hrow2.out
            rw [splice_full (by rfl)] at hrow
            have hb9 := below_grew HZ.out.below hg9 (Nat.le_refl _) (fun q hq => by rw [← Option.some.inj hq]; omega)
            have HF := hide (And.intro hrow hb9)
            clear hrow hrow2 hg9 hz9 c HZ
            go_wp2_with fail
            refine bodyPost_ret (results_cell_row rfl _ _ (w.heap.size + 1) _ _ (0, 0) _ rfl HF.out.1 Tryd.underlying44 rfl Tryd.sizePlan) rfl ?_
            exact ⟨by simp [planOf, planV, engI], HF.out.2⟩
          | false =>
            go_upto_region 11 with fail
            have HZ := hide (HY.out.put (e' := 3) (k' := false) (s' := false) 2 (.bool false) rfl)
            clear HY f c
            rename World => W2
            generalize (W2.setCell ⟨w.heap.size + 1 + 1, 2, none⟩ (.bool false)) = W at *
            have c := HZ.out.plan.cell
            go_wp2_with (refine wpList_store_row rfl _ _ _ rfl (w.heap.size + 1) 0 _ _ _ rfl rfl HZ.out.res Tryd.sizePlan (by simp) (by simp [Value.oneCell']) ?_)
            intro w9 hrow2 hg9 hz9
            have hrow := hrow2.out
            rw [splice_full (by rfl)] at hrow
            have hb9 := below_grew HZ.out.below hg9 (Nat.le_refl _) (fun q hq => by rw [← Option.some.inj hq]; omega)
            have HF := hide (And.intro hrow hb9)
            clear hrow hrow2 hg9 hz9 c HZ
            go_wp2_with fail
            refine bodyPost_ret (results_cell_row rfl _ _ (w.heap.size + 1) _ _ (0, 0) _ rfl HF.out.1 Tryd.underlying44 rfl Tryd.sizePlan) rfl ?_
            exact ⟨by simp [planOf, planV, engI], HF.out.2⟩
      | false =>
        go_upto_region 9 with fail
        have HX := HW
        clear HW
        go_wp2_with fail
        refine (H5.out _ _ HX.out.tags).mono ?_
        rintro e w' ⟨rfl, rfl⟩
        go_upto_region 10 with fail
        have HY := hide (HX.out.put (e' := 2) (k' := b5) (s' := false) 1 (.bool b5) rfl)
        clear HX f c
        rename World => W1
        generalize (W1.setCell ⟨w.heap.size + 1 + 1, 1, none⟩ (.bool b5)) = W at *
        have f := HY.out.plan.frozen
        have c := HY.out.plan.cell
        go_wp2_with fail
        refine (H2.out _ _ HY.out.tags).mono ?_
        rintro e w' ⟨rfl, rfl⟩
        cases b2 with
        | true =>
          go_upto_region 11 with fail
          have HZ := hide (HY.out.put (e' := 2) (k' := b5) (s' := (decide (2 ≤ n))) 2 (.bool (decide (2 ≤ n))) rfl)
          clear HY f c
          rename World => W2
          generalize (W2.setCell ⟨w.heap.size + 1 + 1, 2, none⟩ (.bool (decide (2 ≤ n)))) = W at *
          have c := HZ.out.plan.cell
          go_wp2_with (refine wpList_store_row rfl _ _ _ rfl (w.heap.size + 1) 0 _ _ _ rfl rfl HZ.out.res Tryd.sizePlan (by simp) (by simp [Value.oneCell']) ?_)
          intro w9 hrow2 hg9 hz9
          have hrow := hrow2.out
          rw [splice_full (by rfl)] at hrow
          have hb9 := below_grew HZ.out.below hg9 (Nat.le_refl _) (fun q hq => by rw [← Option.some.inj hq]; omega)
          have HF := hide (And.intro hrow hb9)
          clear hrow hrow2 hg9 hz9 c HZ
          go_wp2_with fail
          refine bodyPost_ret (results_cell_row rfl _ _ (w.heap.size + 1) _ _ (0, 0) _ rfl HF.out.1 Tryd.underlying44 rfl Tryd.sizePlan) rfl ?_
          exact ⟨by simp [planOf, planV, engI], HF.out.2⟩
        | false =>
          go_upto_region 11 with fail
          have HZ := hide (HY.out.put (e' := 2) (k' := b5) (s' := false) 2 (.bool false) rfl)
          clear HY f c
          rename World => W2
          generalize (W2.setCell ⟨w.heap.size + 1 + 1, 2, none⟩ (.bool false)) = W at *
          have c := HZ.out.plan.cell
          go_wp2_with (refine wpList_store_row rfl _ _ _ rfl (w.heap.size + 1) 0 _ _ _ rfl rfl HZ.out.res Tryd.sizePlan (by simp) (by simp [Value.oneCell']) ?_)
          intro w9 hrow2 hg9 hz9
          have hrow := hrow2.out
          rw [splice_full (by rfl)] at hrow
          have hb9 := below_grew HZ.out.below hg9 (Nat.le_refl _) (fun q hq => by rw [← Option.some.inj hq]; omega)
          have HF := hide (And.intro hrow hb9)
          clear hrow hrow2 hg9 hz9 c HZ
          go_wp2_with fail
          refine bodyPost_ret (results_cell_row rfl _ _ (w.heap.size + 1) _ _ (0, 0) _ rfl HF.out.1 Tryd.underlying44 rfl Tryd.sizePlan) rfl ?_
          exact ⟨by simp [planOf, planV, engI], HF.out.2⟩
end Go.Proofs.YtbbhobojghmkpaaDoor

/-! ## Lives23 -/
namespace Go.Proofs.YtbbhobojghmkpaaDoor
open Go.RowKit

def tG23 : T := .mk ⟨7, 0, 0, 0, 0, 1, 0, 0, false⟩ [T.byte 97]
def t23 : T := .mk ⟨5, 0, 0, 0, 0, 0, 0, 0, false⟩ [tG23, T.byte 98]
theorem t23_tags : t23.tags = 52 := by decide +kernel
theorem t23_wf : t23.wf := by
  simp [t23, tG23, T.byte, T.wf, TL.wf, Hd.wf, IsI64, IsU64]
  decide
theorem T.hd_mk23 (h : Hd) (l : List T) : (T.mk h l).hd = h := rfl
theorem T.subs_mk23 (h : Hd) (l : List T) : (T.mk h l).subs = l := rfl
theorem calls_fresh23 {f : FuncId} {args : Array Value} {w : World} {t t' : T} (h : Calls Tryd.prog f args w (Fresh t w)) (e : t = t') : Calls Tryd.prog f args w (Fresh t' w) := e ▸ h
theorem Fresh.get23 {t : T} {w : World} {e : Ending} {w' : World} (h : Fresh t w e w') : ∃ B c, e = .returned (.agg (t.hd.cells (.slice B t.subs.length c)).toArray) ∧ T.In w' (· < w'.heap.size) t B ∧ Below w.heap.size w w' := by
  obtain ⟨B, c, bs, h1, h2, _, h4, h5⟩ := h
  exact ⟨B, c, h1, h2.in_ (fun b hb => (h4 b hb).2), h5⟩
set_option maxRecDepth 100000 in
set_option maxHeartbeats 1500000 in
theorem lives23_any (w : World) (a : Nat → Addr) (hT : Tab w) (hE : Sent [0, 1, 2] w a) : Calls Tryd.prog 25 #[] w fun e w' => e = .returned (.bool true) ∧ Below w.heap.size w w' := by
  have HE := hide (fun x (hx : Below w.heap.size w x) => hE.below hx)
  have HT := hide (fun x (hx : Below w.heap.size w x) => hT.below hx)
  clear hE hT
  obtain ⟨ta, hta⟩ : ∃ t, t = T.byte 97 := ⟨_, rfl⟩
  obtain ⟨tb, htb⟩ : ∃ t, t = T.byte 98 := ⟨_, rfl⟩
  have HA := hide (fun y => calls_fresh23 (text_any ⟨#[97]⟩ y (by decide)) (show T.seq (T.texts ⟨#[97]⟩) = ta from hta ▸ rfl))
  have HB := hide (fun y => calls_fresh23 (text_any ⟨#[98]⟩ y (by decide)) (show T.seq (T.texts ⟨#[98]⟩) = tb from htb ▸ rfl))
  have HC1 := hide (fun y => choose_gen 52 2 false true false true true y (by decide) (by decide) (by decide) (by decide) (by decide))
  have HC2 := hide (fun y => choose_gen 36 1 false true false false true y (by decide) (by decide) (by decide) (by decide) (by decide))
  have HTl := hide (fun y => tell_any 1 false true y)
  have n1 : ta.nodes ≤ 10 := by rw [hta]; decide
  have n2 : tb.nodes ≤ 10 := by rw [htb]; decide
  have e23 : T.mk ⟨5, 0, 0, 0, 0, 0, 0, 0, false⟩ [T.mk ⟨7, 0, 0, 0, 0, 1, 0, 0, false⟩ [ta], tb] = t23 := by rw [hta, htb]; rfl
  have HEQ := hide e23
  clear hta htb e23
  go_enter Tryd.func25, Tryd.ntmps25
  go_wp2_with fail
  refine (HA.out w).mono ?_
  intro e w1 hf
  obtain ⟨B1, c1, rfl, hi, hb⟩ := hf.get23
  have H1 := hide (And.intro hb hi)
  have HR := hide (group_any ta B1 c1 1 w1 (by omega) hi)
  clear hf hb hi HA
  simp only [Hd.cells] at HR ⊢
  go_wp2_with fail
  refine HR.out.mono ?_
  intro e w2 hf
  obtain ⟨B2, c2, rfl, hi, hb⟩ := hf.get23
  have H2 := hide (And.intro (H1.out.1.trans (hb.mono H1.out.1.size)) hi)
  clear hf hb hi HR H1
  simp only [T.hd_mk23, T.subs_mk23, Hd.cells, List.length_cons, List.length_nil, Nat.zero_add]
  go_wp2_with fail
  refine (HB.out w2).mono ?_
  intro e w3 hf
  obtain ⟨B3, c3, rfl, hi, hb⟩ := hf.get23
  have H3 := hide (And.intro (H2.out.1.trans (hb.mono H2.out.1.size)) (And.intro (H2.out.2.next hb) hi))
  clear hf hb hi HB H2
  obtain ⟨W, hW⟩ : ∃ W, W = w3.alloc (.cells (Hd.cells ⟨7, 0, 0, 0, 0, 1, 0, 0, false⟩ (.slice B2 [ta].length c2) ++ tb.hd.cells (.slice B3 tb.subs.length c3)).toArray 27) := ⟨_, rfl⟩
  have hti : TL.In W (· < W.heap.size) [T.mk ⟨7, 0, 0, 0, 0, 1, 0, 0, false⟩ [ta], tb] (some ⟨w3.heap.size, 0, none⟩) := by rw [hW]; exact pair_in c2 c3 H3.out.2.1 H3.out.2.2
  have hbW := (Below.refl w3.heap.size w3).alloc (Nat.le_refl _) (.cells (Hd.cells ⟨7, 0, 0, 0, 0, 1, 0, 0, false⟩ (.slice B2 [ta].length c2) ++ tb.hd.cells (.slice B3 tb.subs.length c3)).toArray 27)
  rw [← hW] at hbW
  have hsq := seq_any [T.mk ⟨7, 0, 0, 0, 0, 1, 0, 0, false⟩ [ta], tb] (some ⟨w3.heap.size, 0, none⟩) 2 W (by simp only [T.nodes, TL.nodes]; omega) hti
  have HSQ := hide (calls_fresh23 hsq (show T.seq [T.mk ⟨7, 0, 0, 0, 0, 1, 0, 0, false⟩ [ta], tb] = t23 from HEQ.out ▸ rfl))
  have HW := hide (H3.out.1.trans (hbW.mono H3.out.1.size))
  simp only [Hd.cells, List.length_cons, List.length_nil, Nat.zero_add, List.cons_append, List.nil_append] at hW HSQ
  clear hti hbW hsq H3
  simp only [Hd.cells]
  go_wp2_with fail
  rw [← hW]
  refine HSQ.out.mono ?_
  intro e w6 hf
  obtain ⟨B6, c6, rfl, hi, hb⟩ := hf.get23
  have H6 := hide (And.intro (HW.out.trans (hb.mono HW.out.size)) hi)
  clear hf hb hi HSQ HW hW
  obtain ⟨u20, hu20⟩ : ∃ u, u = t23 := ⟨_, rfl⟩
  rw [← hu20] at H6 ⊢
  have HU := hide hu20
  clear hu20
  have HTg := hide (fun (y : World) (hy : Below w6.heap.size w6 y) => by
    have h := tags_any u20 B6 c6 y a (by rw [HU.out]; decide) (by rw [HU.out]; exact t23_wf) (HT.out y (H6.out.1.trans (hy.mono H6.out.1.size))) (HE.out y (H6.out.1.trans (hy.mono H6.out.1.size))) (H6.out.2.next hy)
    rw [show u20.tags = 52 by rw [HU.out]; exact t23_tags] at h
    exact h)
  simp only [Hd.cells] at HTg ⊢
  have hbW := (Below.refl w6.heap.size w6).alloc (Nat.le_refl _) (.cells (u20.hd.cells (.slice B6 u20.subs.length c6)).toArray 27)
  simp only [Hd.cells] at hbW
  have H7 := hide hbW
  have HB6 := hide H6.out.1
  clear hbW H6
  go_wp2_with fail
  refine (HTg.out _ H7.out).mono ?_
  rintro e w8 ⟨rfl, hb⟩
  have H8 := hide (HB6.out.trans ((H7.out.trans (hb.mono H7.out.size)).mono HB6.out.size))
  clear hb HTg H7 HB6
  go_wp2_with fail
  refine (HC1.out w8).mono ?_
  rintro e w9 ⟨rfl, hb⟩
  have H9 := hide (H8.out.trans (hb.mono H8.out.size))
  clear hb HC1 H8
  simp only [planOf, show engI false false true true = 1 from rfl, show ((1 : Int) == 2) = false from rfl, show ((1 : Int) != 0) = true from rfl, Bool.false_and, Bool.true_and, show decide ((2 : Int) ≤ 2) = true from rfl]
  go_wp2_with fail
  refine (HTl.out w9).mono ?_
  rintro e w10 ⟨rfl, hb⟩
  have H10 := hide (H9.out.trans (hb.mono H9.out.size))
  clear hb HTl H9
  have q1 : ((tellP 1 false true).toList == (⟨#[115, 101, 101, 107, 32, 115, 112, 97, 110, 115]⟩ : ByteArray).toList) = true := by decide +kernel
  have q2 : (tellP 1 false true).toList = [115, 101, 101, 107, 32, 115, 112, 97, 110, 115] := by decide +kernel
  have hes := fun W => run_eql_plan W 2 2 true true false false
  have hpg := Tryd.planGuard
  generalize tellP 1 false true = tp at *
  go_wp2_with fail
  refine (HC2.out w10).mono ?_
  rintro e w11 ⟨rfl, hb⟩
  have H11 := hide (H10.out.trans (hb.mono H10.out.size))
  clear hb HC2 H10
  simp only [planOf, planV, show engI false false false true = 2 from rfl, show ((2 : Int) == 2) = true from rfl, show ((2 : Int) != 0) = true from rfl, Bool.false_and, Bool.true_and, Bool.and_false, show decide ((2 : Int) ≤ 1) = false from rfl]
  go_wp2_with fail
  refine bodyPost_ret (v := .bool true) (by simp [results, Tryd.results25, go_sem]) rfl ?_
  exact ⟨rfl, H11.out⟩
end Go.Proofs.YtbbhobojghmkpaaDoor
