/- tree.Text. (Printed by gen_text.py.) -/
import Derived.Test.YtpkcklpjbeginaaGreatDoorSeq
import Derived.Laws.BitsAllLaws
set_option linter.unusedSimpArgs false
set_option linter.unusedVariables false
set_option linter.unnecessarySimpa false
namespace Go.Proofs.YtpkcklpjbeginaaGreatDoor
open Go.RowKit

/-- The set of one byte, and its node. -/
def word (b i : Nat) : Int := if b / 64 = i then IntKind.u64.wrap (2 ^ (b % 64)) else 0
def T.byte (b : Nat) : T := .mk ⟨2, word b 0, word b 1, word b 2, word b 3, 0, 0, 0, false⟩ []
def T.texts (s : ByteArray) : List T := s.data.toList.map fun b => T.byte b.toNat

theorem and63 (b : UInt8) : bits .and .u8 (b.toNat : Int) 63 = ((b.toNat % 64 : Nat) : Int) := by
 have := u8_and_nat b.toNat 63 b.toNat_lt (by decide)
 rw [show ((63 : Nat) : Int) = 63 from rfl] at this
 rw [this, show 63 = 2 ^ 6 - 1 from rfl, Nat.and_two_pow_sub_one_eq_mod]

theorem shl_oneT (n : Nat) (hn : n < 64) : Op.shift .shl .u64 1 .u8 (n : Int) = pure (.int .u64 (IntKind.u64.wrap (2 ^ n))) := by
 unfold Op.shift
 rw [if_neg (by omega)]
 have h1 : min (n : Int).toNat 64 = n := by omega
 simp only [IntKind.bits, h1, Int.one_mul]

theorem T.byte_nodes (b : Nat) : (T.byte b).nodes = 1 := rfl

theorem T.texts_nodes (l : List UInt8) : TL.nodes (l.map fun b => T.byte b.toNat) = l.length := by
 induction l with
 | nil => rfl
 | cons a l ih => simp only [List.map_cons, TL.nodes, ih, List.length_cons, T.byte_nodes]; omega

set_option maxRecDepth 100000 in
set_option maxHeartbeats 2000000 in
theorem text_any (s : ByteArray) (w : World) (hs : s.size ≤ 100000) : Calls Tryz.prog 25 #[.string s] w (Fresh (T.seq (T.texts s)) w) := by
 go_enter Tryz.func25, Tryz.ntmps25
 go_wp2_with fail
 go_loopw [3, 4] (fun v kv wr => ∃ (k : Nat) (bs : List Nat), kv = .int .i64 k ∧ k ≤ s.size ∧ GrowT (w.heap.size + 1) wr v ((T.texts s).take k) bs ∧ Below w.heap.size w wr ∧ Blk wr w.heap.size 27 zeroCells) (fun _ kv _ => s.size - (intOf kv).toNat)
 case atStart => exact ⟨0, [], rfl, Nat.zero_le _, GrowT.nil _ _, (Below.refl _ _).alloc (Nat.le_refl _) _, Blk.new _ _ _⟩
 case round =>
  obtain ⟨k, bs, rfl, hk, hgrow, hbel, hb0⟩ := hrel
  have z0 := hb0.lt
  by_cases hlt : k < s.size
  ·have hat : (0 : Int) ≤ k ∧ (k : Int) < s.size := by omega
   have hb256 := s[k].toNat_lt
   have hand := and63 s[k]
   have hshl := shl_oneT (s[k].toNat % 64) (by omega)
   have hq : (0 : Int) ≤ s[k].toNat / 64 ∧ (s[k].toNat : Int) / 64 < 4 := by omega
   have hq2 : ((s[k].toNat : Int) / 64).toNat = s[k].toNat / 64 := by omega
   go_wp2_with fail
   refine wp_region_mix (fun x => True) [10] (by kernel_rfl) (fun hcl => ?_)
   have hS := trivial
   refine wpAnyT_free (i := 0) hcl rfl (by kernel_rfl) (v := ?_) (fun _ _ _ h => h) hS (Or.inl ⟨rfl, fun w' _ => ?_⟩) (fun hcl => ?_)
   rotate_left
   ·go_simp
    with_reducible rfl
   simp only [List.getElem_toArray, List.getElem_cons_zero, List.getElem_cons_succ, Act.put, List.setIfInBounds_toArray, List.set_cons_zero, List.set_cons_succ]
   refine wpAnyT_free (i := 1) hcl rfl (by kernel_rfl) (v := ?_) (fun _ _ _ h => h) hS (Or.inl ⟨rfl, fun w' _ => ?_⟩) (fun hcl => ?_)
   rotate_left
   ·go_simp
    with_reducible rfl
   simp only [List.getElem_toArray, List.getElem_cons_zero, List.getElem_cons_succ, Act.put, List.setIfInBounds_toArray, List.set_cons_zero, List.set_cons_succ]
   refine wpAnyT_free (i := 2) hcl rfl (by kernel_rfl) (v := ?_) (fun _ _ _ h => h) hS (Or.inl ⟨rfl, fun w' _ => ?_⟩) (fun hcl => ?_)
   rotate_left
   ·go_simp
    with_reducible rfl
   simp only [List.getElem_toArray, List.getElem_cons_zero, List.getElem_cons_succ, Act.put, List.setIfInBounds_toArray, List.set_cons_zero, List.set_cons_succ]
   refine wpAnyT_free (i := 3) hcl rfl (by kernel_rfl) (v := ?_) (fun _ _ _ h => h) hS (Or.inl ⟨rfl, fun w' _ => ?_⟩) (fun hcl => ?_)
   rotate_left
   ·go_simp
    with_reducible rfl
   simp only [List.getElem_toArray, List.getElem_cons_zero, List.getElem_cons_succ, Act.put, List.setIfInBounds_toArray, List.set_cons_zero, List.set_cons_succ]
   refine wpAnyT_free (i := 4) hcl rfl (by kernel_rfl) (v := ?_) (fun _ _ _ h => h) hS (Or.inl ⟨rfl, fun w' _ => ?_⟩) (fun hcl => ?_)
   rotate_left
   ·go_simp
    with_reducible rfl
   simp only [List.getElem_toArray, List.getElem_cons_zero, List.getElem_cons_succ, Act.put, List.setIfInBounds_toArray, List.set_cons_zero, List.set_cons_succ]
   refine wpAnyT_free (i := 5) hcl rfl (by kernel_rfl) (v := ?_) (fun _ _ _ h => h) hS (Or.inl ⟨rfl, fun w' _ => ?_⟩) (fun hcl => ?_)
   rotate_left
   ·go_simp
    with_reducible rfl
   simp only [List.getElem_toArray, List.getElem_cons_zero, List.getElem_cons_succ, Act.put, List.setIfInBounds_toArray, List.set_cons_zero, List.set_cons_succ]
   refine wpAnyT_free (i := 6) hcl rfl (by kernel_rfl) (v := ?_) (fun _ _ _ h => h) hS (Or.inl ⟨rfl, fun w' _ => ?_⟩) (fun hcl => ?_)
   rotate_left
   ·go_simp
    with_reducible rfl
   simp only [List.getElem_toArray, List.getElem_cons_zero, List.getElem_cons_succ, Act.put, List.setIfInBounds_toArray, List.set_cons_zero, List.set_cons_succ]
   refine wpAnyT_free (i := 7) hcl rfl (by kernel_rfl) (v := ?_) (fun _ _ _ h => h) hS (Or.inl ⟨rfl, fun w' _ => ?_⟩) (fun hcl => ?_)
   rotate_left
   ·go_simp
    with_reducible rfl
   simp only [List.getElem_toArray, List.getElem_cons_zero, List.getElem_cons_succ, Act.put, List.setIfInBounds_toArray, List.set_cons_zero, List.set_cons_succ]
   refine wpAnyT_free (i := 8) hcl rfl (by kernel_rfl) (v := ?_) (fun _ _ _ h => h) hS (Or.inl ⟨rfl, fun w' _ => ?_⟩) (fun hcl => ?_)
   rotate_left
   ·go_simp
    with_reducible rfl
   simp only [List.getElem_toArray, List.getElem_cons_zero, List.getElem_cons_succ, Act.put, List.setIfInBounds_toArray, List.set_cons_zero, List.set_cons_succ]
   refine wpAnyT_free (i := 9) hcl rfl (by kernel_rfl) (v := ?_) (fun _ _ _ h => h) hS (Or.inl ⟨rfl, fun w' _ => ?_⟩) (fun hcl => ?_)
   rotate_left
   ·go_simp
    with_reducible rfl
   simp only [List.getElem_toArray, List.getElem_cons_zero, List.getElem_cons_succ, Act.put, List.setIfInBounds_toArray, List.set_cons_zero, List.set_cons_succ]
   refine wpAnyT_last (i := 10) hcl rfl (by kernel_rfl) (by kernel_rfl) (fun hcl => ?_)
   simp only [List.getElem_toArray, List.getElem_cons_zero, List.getElem_cons_succ, Act.put, List.setIfInBounds_toArray, List.set_cons_zero, List.set_cons_succ]
   obtain ⟨q, hq3⟩ : ∃ q, q = s[k].toNat / 64 := ⟨_, rfl⟩
   have hq4 : s[k].toNat / 64 = q := hq3.symm
   have hb := hide hq3
   have hqs : q = 0 ∨ q = 1 ∨ q = 2 ∨ q = 3 := by omega
   rw [hq4]
   clear hq4 hq3 hand hshl
   try clear hq
   try clear hq2
   have hsk : (T.texts s)[k]? = some (T.byte s[k].toNat) := by
    simp only [T.texts, List.getElem?_map]
    rw [Array.getElem?_toList, Array.getElem?_eq_getElem hlt]
    rfl
   have hsl : ((T.texts s).take k).length < 1000000 := by
    rw [List.length_take]; omega
   have HG := hide (And.intro hgrow (And.intro hbel (And.intro hb0 (And.intro hsk hsl))))
   clear hgrow hbel hb0 hsk hsl
   rcases hqs with h | h | h | h
   ·subst h
    go_wp2_with fail
    refine wpAnyT_done (by kernel_rfl) ?_ _
    go_wp2_with fail
    refine (bytes_any (IntKind.u64.wrap (2 ^ (s[k].toNat % 64))) 0 0 0 _).mono ?_
    rintro e w1 ⟨rfl, hbel2⟩
    have hz2 := hbel2.size
    simp only [World.size_drew, World.size_alloc] at hz2
    have hbelA : Below wr.heap.size wr w1 := (((Below.refl _ _).alloc (Nat.le_refl _) _).drew).trans (hbel2.mono (by simp))
    clear hbel2
    obtain ⟨hgrow, hbel, hb0, hsk, hsl⟩ := HG.out
    have hgA := hide (fun X => (hgrow.below hbelA).below ((Below.refl _ _).alloc (Nat.le_refl _) X))
    have z0 := hbel.size
    have hbwr := hide hbelA
    clear hbelA hgrow hbel hb0 hsk
    go_wp2_with (at_builtin; refine wpList_append_node rfl _ _ rfl (w.heap.size + 1) _ ((T.texts s).take k) bs rfl (hgA.out _) (.mk ⟨2, (IntKind.u64.wrap (2 ^ (s[k].toNat % 64))), 0, 0, 0, 0, 0, 0, false⟩ []) none 0 w1.heap.size _ [] rfl (Blk.new _ _ _) (.inl ⟨rfl, rfl⟩) List.nodup_nil (by simp) hsl (by simp; omega) ?_)
    intro v' w2 hgrow2 hg2
    have hz3 := hg2.size
    rw [World.size_alloc] at hz3
    have hbelA := hbwr.out
    obtain ⟨hgrow, hbel, hb0, hsk, _⟩ := HG.out
    have hown : ∀ g, u3.ownBlock = some g → w.heap.size + 1 ≤ g ∧ g < wr.heap.size := by
     obtain ⟨xs, q1, _⟩ := hgrow
     exact q1.lt
    have hgrow2' : GrowT (w.heap.size + 1) w2 v' ((T.texts s).take (k + 1)) bs := by
     rw [show (T.texts s).take (k + 1) = (T.texts s).take k ++ [.mk ⟨2, (IntKind.u64.wrap (2 ^ (s[k].toNat % 64))), 0, 0, 0, 0, 0, 0, false⟩ []] from by
      rw [List.take_add_one, hsk]
      have := hb.out
      simp [T.byte, word, ← this]]
     exact hgrow2
    have hkeep : ∀ g, g < w.heap.size + 1 → w2.heap[g]? = wr.heap[g]? := fun g hx => by
     rw [hg2.block g (by simp; omega) (fun e => by have := (hown g e.symm).1; omega), Below.heap_alloc _ _ _ (by omega), hbelA.block g (by omega)]
    have hgoal : Below w.heap.size w w2 := ⟨(hg2.os.trans hbelA.os).trans hbel.os, (hg2.tape.trans hbelA.tape).trans hbel.tape, (hg2.output.trans hbelA.output).trans hbel.output, by omega, fun g hx => by rw [hkeep g (by omega), hbel.block g hx]⟩
    have hb0' : Blk w2 w.heap.size 27 zeroCells := (hkeep _ (by omega)).trans hb0
    have HG2 := hide (And.intro hgrow2' (And.intro hgoal hb0'))
    clear hgrow2' hgoal hown hgrow hbelA hgrow2 hg2 hkeep hb0 hb0' hbel hsk hgA
    go_wp2_with fail
    go_roundw
    case rel => exact ⟨k + 1, bs, by go_num, by omega, HG2.out⟩
    case measure => simp [intOf]; omega
   ·subst h
    go_wp2_with fail
    refine wpAnyT_done (by kernel_rfl) ?_ _
    go_wp2_with fail
    refine (bytes_any 0 (IntKind.u64.wrap (2 ^ (s[k].toNat % 64))) 0 0 _).mono ?_
    rintro e w1 ⟨rfl, hbel2⟩
    have hz2 := hbel2.size
    simp only [World.size_drew, World.size_alloc] at hz2
    have hbelA : Below wr.heap.size wr w1 := (((Below.refl _ _).alloc (Nat.le_refl _) _).drew).trans (hbel2.mono (by simp))
    clear hbel2
    obtain ⟨hgrow, hbel, hb0, hsk, hsl⟩ := HG.out
    have hgA := hide (fun X => (hgrow.below hbelA).below ((Below.refl _ _).alloc (Nat.le_refl _) X))
    have z0 := hbel.size
    have hbwr := hide hbelA
    clear hbelA hgrow hbel hb0 hsk
    go_wp2_with (at_builtin; refine wpList_append_node rfl _ _ rfl (w.heap.size + 1) _ ((T.texts s).take k) bs rfl (hgA.out _) (.mk ⟨2, 0, (IntKind.u64.wrap (2 ^ (s[k].toNat % 64))), 0, 0, 0, 0, 0, false⟩ []) none 0 w1.heap.size _ [] rfl (Blk.new _ _ _) (.inl ⟨rfl, rfl⟩) List.nodup_nil (by simp) hsl (by simp; omega) ?_)
    intro v' w2 hgrow2 hg2
    have hz3 := hg2.size
    rw [World.size_alloc] at hz3
    have hbelA := hbwr.out
    obtain ⟨hgrow, hbel, hb0, hsk, _⟩ := HG.out
    have hown : ∀ g, u3.ownBlock = some g → w.heap.size + 1 ≤ g ∧ g < wr.heap.size := by
     obtain ⟨xs, q1, _⟩ := hgrow
     exact q1.lt
    have hgrow2' : GrowT (w.heap.size + 1) w2 v' ((T.texts s).take (k + 1)) bs := by
     rw [show (T.texts s).take (k + 1) = (T.texts s).take k ++ [.mk ⟨2, 0, (IntKind.u64.wrap (2 ^ (s[k].toNat % 64))), 0, 0, 0, 0, 0, false⟩ []] from by
      rw [List.take_add_one, hsk]
      have := hb.out
      simp [T.byte, word, ← this]]
     exact hgrow2
    have hkeep : ∀ g, g < w.heap.size + 1 → w2.heap[g]? = wr.heap[g]? := fun g hx => by
     rw [hg2.block g (by simp; omega) (fun e => by have := (hown g e.symm).1; omega), Below.heap_alloc _ _ _ (by omega), hbelA.block g (by omega)]
    have hgoal : Below w.heap.size w w2 := ⟨(hg2.os.trans hbelA.os).trans hbel.os, (hg2.tape.trans hbelA.tape).trans hbel.tape, (hg2.output.trans hbelA.output).trans hbel.output, by omega, fun g hx => by rw [hkeep g (by omega), hbel.block g hx]⟩
    have hb0' : Blk w2 w.heap.size 27 zeroCells := (hkeep _ (by omega)).trans hb0
    have HG2 := hide (And.intro hgrow2' (And.intro hgoal hb0'))
    clear hgrow2' hgoal hown hgrow hbelA hgrow2 hg2 hkeep hb0 hb0' hbel hsk hgA
    go_wp2_with fail
    go_roundw
    case rel => exact ⟨k + 1, bs, by go_num, by omega, HG2.out⟩
    case measure => simp [intOf]; omega
   ·subst h
    go_wp2_with fail
    refine wpAnyT_done (by kernel_rfl) ?_ _
    go_wp2_with fail
    refine (bytes_any 0 0 (IntKind.u64.wrap (2 ^ (s[k].toNat % 64))) 0 _).mono ?_
    rintro e w1 ⟨rfl, hbel2⟩
    have hz2 := hbel2.size
    simp only [World.size_drew, World.size_alloc] at hz2
    have hbelA : Below wr.heap.size wr w1 := (((Below.refl _ _).alloc (Nat.le_refl _) _).drew).trans (hbel2.mono (by simp))
    clear hbel2
    obtain ⟨hgrow, hbel, hb0, hsk, hsl⟩ := HG.out
    have hgA := hide (fun X => (hgrow.below hbelA).below ((Below.refl _ _).alloc (Nat.le_refl _) X))
    have z0 := hbel.size
    have hbwr := hide hbelA
    clear hbelA hgrow hbel hb0 hsk
    go_wp2_with (at_builtin; refine wpList_append_node rfl _ _ rfl (w.heap.size + 1) _ ((T.texts s).take k) bs rfl (hgA.out _) (.mk ⟨2, 0, 0, (IntKind.u64.wrap (2 ^ (s[k].toNat % 64))), 0, 0, 0, 0, false⟩ []) none 0 w1.heap.size _ [] rfl (Blk.new _ _ _) (.inl ⟨rfl, rfl⟩) List.nodup_nil (by simp) hsl (by simp; omega) ?_)
    intro v' w2 hgrow2 hg2
    have hz3 := hg2.size
    rw [World.size_alloc] at hz3
    have hbelA := hbwr.out
    obtain ⟨hgrow, hbel, hb0, hsk, _⟩ := HG.out
    have hown : ∀ g, u3.ownBlock = some g → w.heap.size + 1 ≤ g ∧ g < wr.heap.size := by
     obtain ⟨xs, q1, _⟩ := hgrow
     exact q1.lt
    have hgrow2' : GrowT (w.heap.size + 1) w2 v' ((T.texts s).take (k + 1)) bs := by
     rw [show (T.texts s).take (k + 1) = (T.texts s).take k ++ [.mk ⟨2, 0, 0, (IntKind.u64.wrap (2 ^ (s[k].toNat % 64))), 0, 0, 0, 0, false⟩ []] from by
      rw [List.take_add_one, hsk]
      have := hb.out
      simp [T.byte, word, ← this]]
     exact hgrow2
    have hkeep : ∀ g, g < w.heap.size + 1 → w2.heap[g]? = wr.heap[g]? := fun g hx => by
     rw [hg2.block g (by simp; omega) (fun e => by have := (hown g e.symm).1; omega), Below.heap_alloc _ _ _ (by omega), hbelA.block g (by omega)]
    have hgoal : Below w.heap.size w w2 := ⟨(hg2.os.trans hbelA.os).trans hbel.os, (hg2.tape.trans hbelA.tape).trans hbel.tape, (hg2.output.trans hbelA.output).trans hbel.output, by omega, fun g hx => by rw [hkeep g (by omega), hbel.block g hx]⟩
    have hb0' : Blk w2 w.heap.size 27 zeroCells := (hkeep _ (by omega)).trans hb0
    have HG2 := hide (And.intro hgrow2' (And.intro hgoal hb0'))
    clear hgrow2' hgoal hown hgrow hbelA hgrow2 hg2 hkeep hb0 hb0' hbel hsk hgA
    go_wp2_with fail
    go_roundw
    case rel => exact ⟨k + 1, bs, by go_num, by omega, HG2.out⟩
    case measure => simp [intOf]; omega
   ·subst h
    go_wp2_with fail
    refine wpAnyT_done (by kernel_rfl) ?_ _
    go_wp2_with fail
    refine (bytes_any 0 0 0 (IntKind.u64.wrap (2 ^ (s[k].toNat % 64))) _).mono ?_
    rintro e w1 ⟨rfl, hbel2⟩
    have hz2 := hbel2.size
    simp only [World.size_drew, World.size_alloc] at hz2
    have hbelA : Below wr.heap.size wr w1 := (((Below.refl _ _).alloc (Nat.le_refl _) _).drew).trans (hbel2.mono (by simp))
    clear hbel2
    obtain ⟨hgrow, hbel, hb0, hsk, hsl⟩ := HG.out
    have hgA := hide (fun X => (hgrow.below hbelA).below ((Below.refl _ _).alloc (Nat.le_refl _) X))
    have z0 := hbel.size
    have hbwr := hide hbelA
    clear hbelA hgrow hbel hb0 hsk
    go_wp2_with (at_builtin; refine wpList_append_node rfl _ _ rfl (w.heap.size + 1) _ ((T.texts s).take k) bs rfl (hgA.out _) (.mk ⟨2, 0, 0, 0, (IntKind.u64.wrap (2 ^ (s[k].toNat % 64))), 0, 0, 0, false⟩ []) none 0 w1.heap.size _ [] rfl (Blk.new _ _ _) (.inl ⟨rfl, rfl⟩) List.nodup_nil (by simp) hsl (by simp; omega) ?_)
    intro v' w2 hgrow2 hg2
    have hz3 := hg2.size
    rw [World.size_alloc] at hz3
    have hbelA := hbwr.out
    obtain ⟨hgrow, hbel, hb0, hsk, _⟩ := HG.out
    have hown : ∀ g, u3.ownBlock = some g → w.heap.size + 1 ≤ g ∧ g < wr.heap.size := by
     obtain ⟨xs, q1, _⟩ := hgrow
     exact q1.lt
    have hgrow2' : GrowT (w.heap.size + 1) w2 v' ((T.texts s).take (k + 1)) bs := by
     rw [show (T.texts s).take (k + 1) = (T.texts s).take k ++ [.mk ⟨2, 0, 0, 0, (IntKind.u64.wrap (2 ^ (s[k].toNat % 64))), 0, 0, 0, false⟩ []] from by
      rw [List.take_add_one, hsk]
      have := hb.out
      simp [T.byte, word, ← this]]
     exact hgrow2
    have hkeep : ∀ g, g < w.heap.size + 1 → w2.heap[g]? = wr.heap[g]? := fun g hx => by
     rw [hg2.block g (by simp; omega) (fun e => by have := (hown g e.symm).1; omega), Below.heap_alloc _ _ _ (by omega), hbelA.block g (by omega)]
    have hgoal : Below w.heap.size w w2 := ⟨(hg2.os.trans hbelA.os).trans hbel.os, (hg2.tape.trans hbelA.tape).trans hbel.tape, (hg2.output.trans hbelA.output).trans hbel.output, by omega, fun g hx => by rw [hkeep g (by omega), hbel.block g hx]⟩
    have hb0' : Blk w2 w.heap.size 27 zeroCells := (hkeep _ (by omega)).trans hb0
    have HG2 := hide (And.intro hgrow2' (And.intro hgoal hb0'))
    clear hgrow2' hgoal hown hgrow hbelA hgrow2 hg2 hkeep hb0 hb0' hbel hsk hgA
    go_wp2_with fail
    go_roundw
    case rel => exact ⟨k + 1, bs, by go_num, by omega, HG2.out⟩
    case measure => simp [intOf]; omega
  ·have hke : k = s.size := by omega
   have hl : (T.texts s).length = s.size := by simp only [T.texts, List.length_map]; exact Array.length_toList
   rw [hke, ← hl, List.take_length] at hgrow
   obtain ⟨A, c, bs', rfl, hown, hnd, hfr⟩ := hgrow.own ⟨0, 0, 0, 0, 0, 0, 0, 0, false⟩
   have HS := hide (seq_any (T.texts s) A c wr (by unfold T.texts; rw [T.texts_nodes, Array.length_toList]; exact Nat.le_trans hs (by decide)) (T.In_iff.1 (hown.in_ fun b hb => (hfr b hb).2)))
   clear hown hgrow hfr hl
   go_wp2_with fail
   refine HS.out.mono ?_
   rintro e w1 ⟨B, c', bs2, rfl, hown, hnd2, hfr, hbel2⟩
   have hz2 := hbel2.size
   have hb1 : Blk w1 w.heap.size 27 zeroCells := hb0.below hbel2 z0
   have hbw := hbel.trans (hbel2.mono hbel.size)
   go_wp2_with (refine wpList_store_row rfl _ _ _ rfl w.heap.size 0 _ _ _ rfl rfl hb1 Tryz.sizeNode (by simp [zeroCells, Hd.cells_length]) (fun u hu => cells_one (T.seq (T.texts s)).hd B (T.seq (T.texts s)).subs.length c' u (by simpa using hu)) ?_)
   intro w2 hrow2 hg2 hz3
   have hrow2' := hrow2.out
   rw [splice_all (by simp [Hd.cells_length, zeroCells])] at hrow2'
   go_wp2_with fail
   refine bodyPost_ret (results_cell_row rfl _ _ w.heap.size _ _ (0, 0) _ rfl hrow2' Tryz.underlying27 rfl Tryz.sizeNode) rfl ?_
   refine ⟨B, c', bs2, by simp [Hd.cells], hown.same fun b hb => hg2.block b (hfr b hb).2 (fun e => ?_), hnd2, fun b hb => ?_, hbw.grown hg2 hbw.size (fun k hk => by injection hk with hk; omega)⟩
   ·injection e with e
    have := (hfr b hb).1
    omega
   ·have := hfr b hb
    omega

end Go.Proofs.YtpkcklpjbeginaaGreatDoor
