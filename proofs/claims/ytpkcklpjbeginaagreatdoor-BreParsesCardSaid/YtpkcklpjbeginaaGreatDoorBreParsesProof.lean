/- ParsesLaw7: trawllaw07.BreParses: the law walked. (Printed by gen_parseslaw7.py.)
BreParsesProof: trawl/trawllaw07.BreParses: for every pattern and flags, the call answers true, and what it was given reads afterwards as before; the program's variables lie as its text lays them (the card ties that). Conditions: those of the given card alone. (Printed by gen_card2.py.) -/
import Derived.Test.YtpkcklpjbeginaaGreatDoorRefBreA
import Derived.Test.YtpkcklpjbeginaaGreatDoorBreF
import Derived.Test.YtpkcklpjbeginaaGreatDoorRightP7
import Derived.Test.YtpkcklpjbeginaaGreatDoorSames
import Derived.Test.YtpkcklpjbeginaaGreatDoorSpoil
import Derived.Test.YtpkcklpjbeginaaGreatDoorRows
import Derived.Test.YtpkcklpjbeginaaGreatDoorCards
import Derived.Test.YtpkcklpjbeginaaGreatDoorTie
import Derived.Test.YtpkcklpjbeginaaGreatDoorReads
import Derived.Test.YtpkcklpjbeginaaGreatDoorLaidAll
import Derived.Test.YtpkcklpjbeginaaGreatDoorShapeInt
import Derived.WalkKit
import Derived.ProofKit
import Derived.LaidMore
import Derived.LaidHandle
import Derived.OpenShut
import Derived.ChangeOld
import Derived.ChangeMaps5
import Derived.Below
import Derived.Stop.Joined
import Derived.Deep.DeepHandedRow
import Derived.SevenTiedAt
import Derived.MakeChecks
set_option linter.unusedSimpArgs false
set_option linter.unusedVariables false
set_option linter.unnecessarySimpa false

/-! ## ParsesLaw7 -/
namespace Go.Proofs.YtpkcklpjbeginaaGreatDoor
open Go.RowKit

mutual
theorem T.same_self6 : ∀ t : T, t.same t = true
 | .mk h l => by simp [T.same, show h.same h = true from Hd.same_iff.2 rfl, TL.same_self6 l]
theorem TL.same_self6 : ∀ l : List T, TL.same l l = true
 | [] => by simp [TL.same]
 | t :: l => by simp [TL.same, T.same_self6 t, TL.same_self6 l]
end
/-! ### A fault is one of the 21 -/
theorem code_item {p : ByteArray} {i c : Nat} {z pl : Int} (h : itemP p i z = .bad c pl) : c < 21 := by
 unfold itemP at h
 split at h
 ·injection h with h1; omega
 ·split at h
  ·unfold namedP at h
   split at h
   ·injection h with h1; omega
   ·split at h
    ·cases h
    ·injection h with h1; omega
  ·split at h
   ·split at h
    ·injection h with h1; omega
    ·split at h
     ·injection h with h1; omega
     ·cases h
   ·cases h
theorem code_loop {p : ByteArray} {z f : Nat} : ∀ (n i : Nat) (S : Nat → Bool) (c : Nat) (pl : Int), loopP p z f n i S = .bad c pl → c < 21
 | 0, i, S, c, pl, h => by injection h with h1; omega
 | n + 1, i, S, c, pl, h => by
  rw [loopP] at h
  split at h
  ·injection h with h1; omega
  ·split at h
   ·cases h
   ·cases hi : itemP p i z with
    | bad g y => rw [hi] at h; injection h with h1; rw [← h1]; exact code_item hi
    | good T j => rw [hi] at h; exact code_loop n j _ c pl h
/-- A fault of a reading is one of the 21. -/
def PR.Cd (r : PR) : Prop := match r with
 | .ok _ _ _ => True
 | .bad c _ => c < 21
theorem code_set (p : ByteArray) (ic nl : Bool) (i g : Nat) : (setAt p ic nl i g).Cd := by
 unfold setAt readP
 cases hl : loopP p i (if pb p (i + 1) = 94 then i + 2 else i + 1) (p.size + 1) (if pb p (i + 1) = 94 then i + 2 else i + 1) (fun _ => false) with
 | bad c pl => exact code_loop _ _ _ _ _ hl
 | good S n => trivial
def DCd (deeper : Option (Nat → Nat → PR)) : Prop := ∀ f, deeper = some f → ∀ i g, (f i g).Cd
theorem code_group {p : ByteArray} {m : Nat} {deeper : Option (Nat → Nat → PR)} (hd : DCd deeper) (i g : Nat) : (groupP p m deeper i g).Cd := by
 unfold groupP
 cases deeper with
 | none => show 10 < 21; omega
 | some f =>
  have h := hd f rfl (i + m) (g + 1)
  cases hf : f (i + m) (g + 1) with
  | bad c pl => simp only [hf]; rw [hf] at h; exact h
  | ok t j q =>
   simp only [hf]
   split
   ·trivial
   ·show 1 < 21; omega
theorem code_atomB {p : ByteArray} {ic nl : Bool} {deeper : Option (Nat → Nat → PR)} (hd : DCd deeper) (star : Bool) (i g : Nat) : (atomB p ic nl deeper star i g).Cd := by
 unfold atomB
 split
 ·trivial
 ·split
  ·exact code_set p ic nl i g
  ·split
   ·split
    ·split
     ·exact code_group hd i g
     ·split
      ·show 1 < 21; omega
      ·split
       ·show 8 < 21; omega
       ·split
        ·show 2 < 21; omega
        ·trivial
    ·show 7 < 21; omega
   ·split
    ·show 8 < 21; omega
    ·trivial
theorem code_repB {p : ByteArray} {i c : Nat} (h : repB p i = .bad c) : c < 21 := by
 unfold repB at h
 split at h
 ·cases h
 split at h
 ·split at h
  ·injection h with h1; omega
  ·split at h
   ·injection h with h1; omega
   ·cases h
 ·cases h
theorem code_withRep {r : RR} (hr : ∀ c, r = .bad c → c < 21) (t : T) (j h : Nat) : (withRep r t j h).Cd := by
 unfold withRep
 split
 ·trivial
 ·rename_i c; exact hr c rfl
 ·split
  ·show 9 < 21; omega
  ·trivial
theorem code_pieceB {p : ByteArray} {ic nl : Bool} {deeper : Option (Nat → Nat → PR)} (hd : DCd deeper) (star : Bool) (i g : Nat) : (pieceB p ic nl deeper star i g).Cd := by
 unfold pieceB
 have h := code_atomB (p := p) (ic := ic) (nl := nl) hd star i g
 cases ha : atomB p ic nl deeper star i g with
 | bad c pl => rw [ha] at h; exact h
 | ok t j q => exact code_withRep (fun c e => code_repB e) t j q
theorem code_pattB {p : ByteArray} {ic nl : Bool} {deeper : Option (Nat → Nat → PR)} (hd : DCd deeper) (deep : Bool) : ∀ (n : Nat) (front star : Bool) (i g : Nat) (acc : List T), (pattB p ic nl deeper deep n front star i g acc).Cd
 | 0, front, star, i, g, acc => by rw [pattB]; show 0 < 21; omega
 | n + 1, front, star, i, g, acc => by
  rw [pattB]
  split
  ·trivial
  ·split
   ·exact code_pattB hd deep n _ _ _ _ _
   ·split
    ·exact code_pattB hd deep n _ _ _ _ _
    ·have h := code_pieceB (p := p) (ic := ic) (nl := nl) hd star i g
     cases ha : pieceB p ic nl deeper star i g with
     | bad c pl => rw [ha] at h; exact h
     | ok t j q => exact code_pattB hd deep n _ _ j q _
theorem code_deepB {p : ByteArray} {ic nl : Bool} : ∀ (k : Nat) (d : Bool) (i g : Nat), (deepB p ic nl k d i g).Cd
 | 0, d, i, g => by rw [deepB]; exact code_pattB (fun f hf => by cases hf) d _ _ _ i g []
 | k + 1, d, i, g => by
  rw [deepB]
  exact code_pattB (fun f hf => by injection hf with hf; subst hf; exact fun i g => code_deepB k true i g) d _ _ _ i g []
theorem code_parseB (p : ByteArray) (ic nl : Bool) : (parseB p ic nl).Cd := by
 unfold parseB
 split
 ·show 11 < 21; omega
 ·have h := code_deepB (p := p) (ic := ic) (nl := nl) 32 false 0 0
  cases hr : deepB p ic nl 32 false 0 0 with
  | bad c pl => rw [hr] at h; exact h
  | ok t j q =>
   simp only [wholeP]
   split
   ·show 9 < 21; omega
   ·trivial
set_option maxRecDepth 100000 in
set_option maxHeartbeats 4000000 in
theorem breParses_law (p : ByteArray) (fl : Int) (a : Nat → Addr) (m : Int) (w : World) (hB : B5 w a m) (hT : ErrT w) : Calls Tryz.prog 4 #[.string p, .int .i64 fl] w fun e w' => e = .returned (.bool true) ∧ Below w.heap.size w w' := by
 have HL := hide (lives7_true a m w hB hT)
 have HB := hide (fun (y : World) (h : Below w.heap.size w y) => hB.below h)
 have HT := hide (fun (y : World) (h : Below w.heap.size w y) => hT.below h)
 have hr := parseB_right p (!decide (bits .and .i64 fl 2 = 0)) (!decide (bits .and .i64 fl 4 = 0))
 have hcd := code_parseB p (!decide (bits .and .i64 fl 2 = 0)) (!decide (bits .and .i64 fl 4 = 0))
 have HP := hide (fun (y : World) (hy : B5 y a m) => breParse_any p fl a m y hy)
 have HRf := hide (fun (y : World) => refParseB_any p fl y)
 obtain ⟨r, hrr⟩ : ∃ r, r = parseB p (!decide (bits .and .i64 fl 2 = 0)) (!decide (bits .and .i64 fl 4 = 0)) := ⟨_, rfl⟩
 rw [← hrr] at HP hr HRf hcd
 clear hB hT hrr
 go_enter Tryz.func4, Tryz.ntmps4
 go_wp2_with fail
 refine HL.out.mono ?_
 rintro e w1 ⟨rfl, hb1⟩
 have H1 := hide hb1
 clear hb1 HL
 go_wp2_with fail
 refine (HP.out w1 (HB.out _ H1.out)).mono ?_
 rintro e w2 hz
 cases r with
 | bad c pl =>
  obtain ⟨gf, rfl, hfi, hb2⟩ := hz
  have hc21 : c < 21 := hcd
  clear hr hcd
  have hal := (Below.refl w2.heap.size w2).alloc (Nat.le_refl _) (.cells #[.int .i64 0, .int .u64 0, .int .u64 0, .int .u64 0, .int .u64 0, .slice none 0 0, .int .i64 0, .int .i64 0, .int .i64 0, .bool false] 27)
  have hbb := hb2.trans (hal.mono hb2.size)
  have H3 := hide (And.intro (H1.out.trans (hbb.mono H1.out.size)) (And.intro (Blk.next hfi hal) (Blk.new w2 27 #[.int .i64 0, .int .u64 0, .int .u64 0, .int .u64 0, .int .u64 0, .slice none 0 0, .int .i64 0, .int .i64 0, .int .i64 0, .bool false])))
  clear hfi hb2 hal hbb
  unfold faultV zeroCells
  go_upto_region 4 with fail
  generalize (w2.alloc (.cells #[.int .i64 0, .int .u64 0, .int .u64 0, .int .u64 0, .int .u64 0, .slice none 0 0, .int .i64 0, .int .i64 0, .int .i64 0, .bool false] 27)) = w3 at *
  generalize w2.heap.size = g5 at *
  go_wp2_with fail
  refine (HP.out w3 (HB.out _ H3.out.1)).mono ?_
  rintro e w4 ⟨gf2, rfl, hfi, hb2⟩
  have hal := (Below.refl w4.heap.size w4).alloc (Nat.le_refl _) (.cells #[.int .i64 0, .int .u64 0, .int .u64 0, .int .u64 0, .int .u64 0, .slice none 0 0, .int .i64 0, .int .i64 0, .int .i64 0, .bool false] 27)
  have hbb := hb2.trans (hal.mono hb2.size)
  have H5 := hide (And.intro (H3.out.1.trans (hbb.mono H3.out.1.size)) (And.intro (Blk.next H3.out.2.1 hbb) (And.intro (H3.out.2.2.next hbb) (And.intro (Blk.next hfi hal) (Blk.new w4 27 #[.int .i64 0, .int .u64 0, .int .u64 0, .int .u64 0, .int .u64 0, .slice none 0 0, .int .i64 0, .int .i64 0, .int .i64 0, .bool false])))))
  clear hfi hb2 hal hbb HP H3
  unfold faultV zeroCells
  go_upto_region 5 with fail
  generalize (w4.alloc (.cells #[.int .i64 0, .int .u64 0, .int .u64 0, .int .u64 0, .int .u64 0, .slice none 0 0, .int .i64 0, .int .i64 0, .int .i64 0, .bool false] 27)) = w5 at *
  generalize w4.heap.size = g8 at *
  go_wp2_with fail
  refine (HRf.out w5).mono ?_
  rintro e w6 ⟨rfl, hb6⟩
  obtain ⟨cd, hcd⟩ : ∃ cd : Int, cd = ((c + 1 : Nat) : Int) := ⟨_, rfl⟩
  rw [← hcd]
  have HCD := hide hcd
  clear hcd
  have hal := (Below.refl w6.heap.size w6).alloc (Nat.le_refl _) (.cells #[.int .i64 0, .int .u64 0, .int .u64 0, .int .u64 0, .int .u64 0, .slice none 0 0, .int .i64 0, .int .i64 0, .int .i64 0, .bool false, .int .i64 0, .int .i64 cd, .int .i64 pl] 43)
  have hbb := hb6.trans (hal.mono hb6.size)
  have H7 := hide (And.intro (H5.out.1.trans (hbb.mono H5.out.1.size)) (And.intro (Blk.next H5.out.2.1 hbb) (And.intro (H5.out.2.2.1.next hbb) (And.intro (Blk.next H5.out.2.2.2.1 hbb) (And.intro (H5.out.2.2.2.2.next hbb) (Blk.new w6 43 #[.int .i64 0, .int .u64 0, .int .u64 0, .int .u64 0, .int .u64 0, .slice none 0 0, .int .i64 0, .int .i64 0, .int .i64 0, .bool false, .int .i64 0, .int .i64 cd, .int .i64 pl]))))))
  clear hb6 hal hbb HRf H5
  go_upto_region 6 with fail
  generalize (w6.alloc (.cells #[.int .i64 0, .int .u64 0, .int .u64 0, .int .u64 0, .int .u64 0, .slice none 0 0, .int .i64 0, .int .i64 0, .int .i64 0, .bool false, .int .i64 0, .int .i64 cd, .int .i64 pl] 43)) = w7 at *
  generalize w6.heap.size = g11 at *
  have HN := hide (fun (gx : Nat) (x : Later w7) (hx : Blk x.val gx 87 #[.int .i64 pl, errV (a (sentVar c))]) => show Calls Tryz.prog 12 #[.iface 83 (.pointer (some ⟨gx, 0, none⟩))] x.val fun e w' => e = .returned (.int .i64 cd) ∧ Below x.val.heap.size x.val w' from by
   have h := num_fault x.val a gx pl c hc21 (HB.out _ (H7.out.1.trans (x.2.mono H7.out.1.size))).errs hx
   rw [show ((c : Int) + 1) = cd from HCD.out.symm] at h
   exact h)
  have HN1 := hide (fun (x : Later w7) => HN.out gf x (Blk.next H7.out.2.1 x.2))
  have HN2 := hide (fun (x : Later w7) => HN.out gf2 x (Blk.next H7.out.2.2.2.1 x.2))
  have HPl := hide (fun (gx : Nat) (x : World) (hy : Below w7.heap.size w7 x) (hx : Blk x gx 87 #[.int .i64 pl, errV (a (sentVar c))]) => show Calls Tryz.prog 19 #[.iface 83 (.pointer (some ⟨gx, 0, none⟩))] x fun e w' => e = .returned (.int .i64 pl) ∧ Below x.heap.size x w' from place_fault gx pl _ x (HT.out _ (H7.out.1.trans (hy.mono H7.out.1.size))) hx)
  have HSm := hide (fun (x : Later w7) => show Calls Tryz.prog 15 #[.agg #[.int .i64 0, .int .u64 0, .int .u64 0, .int .u64 0, .int .u64 0, .slice none 0 0, .int .i64 0, .int .i64 0, .int .i64 0, .bool false], .agg #[.int .i64 0, .int .u64 0, .int .u64 0, .int .u64 0, .int .u64 0, .slice none 0 0, .int .i64 0, .int .i64 0, .int .i64 0, .bool false]] x.val fun e w' => e = .returned (.bool true) ∧ Below x.val.heap.size x.val w' from by
   have h1 := same_any 1 nilT nilT none none 0 0 x.val (Nat.le_refl _) (by decide) (T.In_iff.2 trivial) (T.In_iff.2 trivial)
   rw [T.same_self6] at h1
   exact h1)
  have c5 := fun (x : Later w7) => (H7.out.2.2.1.next x.2).cell
  have c11 := fun (x : Later w7) => (H7.out.2.2.2.2.2.next x.2).cell
  clear HN
  refine wp_region_later (by kernel_rfl) (by kernel_rfl) ?_
  repeat (go_big_quiet_step (first | with_reducible exact calls_later (HN1.out _) | with_reducible exact calls_later (HN2.out _) | with_reducible exact calls_later (HSm.out _)))
  refine wpQuiet_nil ?_
  intro w6 hw6
  obtain ⟨x, hxe⟩ := hw6
  have hx : Below w7.heap.size w7 w6 := hxe ▸ x.2
  clear hxe x
  have hx6 := hx
  clear hx c5 c11 HN1 HN2 HSm
  have hn0 := fun w => run_neq_iface_nil (P := Tryz.prog) (w := w) 32 (by kernel_rfl) 83 (.pointer (some ⟨gf, 0, none⟩))
  have H8 := hide (And.intro hx6 (H7.out.1.trans (hx6.mono H7.out.1.size)))
  have HPl1 := hide (fun (x : Later w6) => HPl.out gf x.val (hx6.trans (x.2.mono hx6.size)) (Blk.next H7.out.2.1 (hx6.trans (x.2.mono hx6.size))))
  have HPl2 := hide (fun (x : Later w6) => HPl.out gf2 x.val (hx6.trans (x.2.mono hx6.size)) (Blk.next H7.out.2.2.2.1 (hx6.trans (x.2.mono hx6.size))))
  have c11 := fun (x : Later w6) => (H7.out.2.2.2.2.2.next (hx6.trans (x.2.mono hx6.size))).cell
  clear hx6
  go_upto_region 9 with fail
  clear hn0
  refine wp_region_later (by kernel_rfl) (by kernel_rfl) ?_
  repeat (go_big_quiet_step (first | with_reducible exact calls_later (HPl1.out _) | with_reducible exact calls_later (HPl2.out _)))
  refine wpQuiet_nil ?_
  intro w9 hw6
  obtain ⟨x, hxe⟩ := hw6
  have hx : Below w6.heap.size w6 w9 := hxe ▸ x.2
  clear hxe x
  clear c11 HPl1 HPl2 HPl
  go_wp2_with fail
  go_ret
  exact ⟨rfl, H8.out.2.trans (hx.mono H8.out.2.size)⟩
 | ok t j g =>
  obtain ⟨B, cc, rfl, hown, hb2⟩ := hz
  obtain ⟨hp0, hck, htd, hgb, hnd⟩ := hr
  clear hck htd hcd
  have hal := (Below.refl w2.heap.size w2).alloc (Nat.le_refl _) (.cells #[.int .i64 t.hd.kind, .int .u64 t.hd.s0, .int .u64 t.hd.s1, .int .u64 t.hd.s2, .int .u64 t.hd.s3, .slice B t.subs.length cc, .int .i64 t.hd.num, .int .i64 t.hd.min, .int .i64 t.hd.max, .bool t.hd.bare] 27)
  have hbb := hb2.trans (hal.mono hb2.size)
  have H3 := hide (And.intro (H1.out.trans (hbb.mono H1.out.size)) (And.intro (hown.next hal) (Blk.new w2 27 #[.int .i64 t.hd.kind, .int .u64 t.hd.s0, .int .u64 t.hd.s1, .int .u64 t.hd.s2, .int .u64 t.hd.s3, .slice B t.subs.length cc, .int .i64 t.hd.num, .int .i64 t.hd.min, .int .i64 t.hd.max, .bool t.hd.bare])))
  have HS3 := hide (show w1.heap.size ≤ w2.heap.size ∧ w2.heap.size < (w2.alloc (.cells #[.int .i64 t.hd.kind, .int .u64 t.hd.s0, .int .u64 t.hd.s1, .int .u64 t.hd.s2, .int .u64 t.hd.s3, .slice B t.subs.length cc, .int .i64 t.hd.num, .int .i64 t.hd.min, .int .i64 t.hd.max, .bool t.hd.bare] 27)).heap.size from ⟨hb2.size, by rw [World.size_alloc]; omega⟩)
  have HO3 := hide hown
  clear hown hb2 hal hbb
  simp only [Hd.cells]
  go_upto_region 4 with fail
  generalize (w2.alloc (.cells #[.int .i64 t.hd.kind, .int .u64 t.hd.s0, .int .u64 t.hd.s1, .int .u64 t.hd.s2, .int .u64 t.hd.s3, .slice B t.subs.length cc, .int .i64 t.hd.num, .int .i64 t.hd.min, .int .i64 t.hd.max, .bool t.hd.bare] 27)) = w3 at *
  go_wp2_with fail
  refine (HP.out w3 (HB.out _ H3.out.1)).mono ?_
  rintro e w4 ⟨B2, c2, rfl, hown, hb2⟩
  have hal := (Below.refl w4.heap.size w4).alloc (Nat.le_refl _) (.cells #[.int .i64 t.hd.kind, .int .u64 t.hd.s0, .int .u64 t.hd.s1, .int .u64 t.hd.s2, .int .u64 t.hd.s3, .slice B2 t.subs.length c2, .int .i64 t.hd.num, .int .i64 t.hd.min, .int .i64 t.hd.max, .bool t.hd.bare] 27)
  have hbb := hb2.trans (hal.mono hb2.size)
  have H5 := hide (And.intro (H3.out.1.trans (hbb.mono H3.out.1.size)) (And.intro hbb (And.intro (hown.next hal) (Blk.new w4 27 #[.int .i64 t.hd.kind, .int .u64 t.hd.s0, .int .u64 t.hd.s1, .int .u64 t.hd.s2, .int .u64 t.hd.s3, .slice B2 t.subs.length c2, .int .i64 t.hd.num, .int .i64 t.hd.min, .int .i64 t.hd.max, .bool t.hd.bare]))))
  have HG8 := hide hb2.size
  clear hown hb2 hal hbb HP
  simp only [Hd.cells]
  go_upto_region 5 with fail
  generalize (w4.alloc (.cells #[.int .i64 t.hd.kind, .int .u64 t.hd.s0, .int .u64 t.hd.s1, .int .u64 t.hd.s2, .int .u64 t.hd.s3, .slice B2 t.subs.length c2, .int .i64 t.hd.num, .int .i64 t.hd.min, .int .i64 t.hd.max, .bool t.hd.bare] 27)) = w5 at *
  generalize w4.heap.size = g8 at *
  go_wp2_with fail
  refine (HRf.out w5).mono ?_
  rintro e w6 ⟨⟨B3, c3, rfl, hin3⟩, hb6⟩
  have hal := (Below.refl w6.heap.size w6).alloc (Nat.le_refl _) (.cells #[.int .i64 t.hd.kind, .int .u64 t.hd.s0, .int .u64 t.hd.s1, .int .u64 t.hd.s2, .int .u64 t.hd.s3, .slice B3 t.subs.length c3, .int .i64 t.hd.num, .int .i64 t.hd.min, .int .i64 t.hd.max, .bool t.hd.bare, .int .i64 (g : Int), .int .i64 0, .int .i64 0] 43)
  have hbb := hb6.trans (hal.mono hb6.size)
  have H7 := hide (And.intro (H5.out.1.trans (hbb.mono H5.out.1.size)) (And.intro hbb (And.intro (hin3.same (ok' := fun b => w5.heap.size ≤ b ∧ b < w6.heap.size) ((same_of_below hal).mono fun b hb => hb.2) fun b hb => hb) (Blk.new w6 43 #[.int .i64 t.hd.kind, .int .u64 t.hd.s0, .int .u64 t.hd.s1, .int .u64 t.hd.s2, .int .u64 t.hd.s3, .slice B3 t.subs.length c3, .int .i64 t.hd.num, .int .i64 t.hd.min, .int .i64 t.hd.max, .bool t.hd.bare, .int .i64 (g : Int), .int .i64 0, .int .i64 0]))))
  have HS7 := hide (show w6.heap.size < (w6.alloc (.cells #[.int .i64 t.hd.kind, .int .u64 t.hd.s0, .int .u64 t.hd.s1, .int .u64 t.hd.s2, .int .u64 t.hd.s3, .slice B3 t.subs.length c3, .int .i64 t.hd.num, .int .i64 t.hd.min, .int .i64 t.hd.max, .bool t.hd.bare, .int .i64 (g : Int), .int .i64 0, .int .i64 0] 43)).heap.size from by rw [World.size_alloc]; omega)
  have HS67 := hide hb6.size
  clear hb6 hal hbb HRf hin3
  go_upto_region 6 with fail
  generalize (w6.alloc (.cells #[.int .i64 t.hd.kind, .int .u64 t.hd.s0, .int .u64 t.hd.s1, .int .u64 t.hd.s2, .int .u64 t.hd.s3, .slice B3 t.subs.length c3, .int .i64 t.hd.num, .int .i64 t.hd.min, .int .i64 t.hd.max, .bool t.hd.bare, .int .i64 (g : Int), .int .i64 0, .int .i64 0] 43)) = w7 at *
  have HW7 := hide (show Below w7.heap.size w7 w7 from Below.refl _ _)
  have H3to7 := hide (show Below w3.heap.size w3 w7 from H5.out.2.1.trans (H7.out.2.1.mono H5.out.2.1.size))
  have HT1 := hide (show T.In w7 (· < w7.heap.size) t B from by
   obtain ⟨bs, h1, h2, h3⟩ := H3.out.2.1
   have h4 := h1.same (w' := w7) (fun b hb => H3to7.out.block b (h3 b hb).2)
   exact h4.in_ fun b hb => Nat.lt_of_lt_of_le (h3 b hb).2 H3to7.out.size)
  have HT3 := hide (show T.In w7 (· < w7.heap.size) t B3 from H7.out.2.2.1.same (Same.refl _ _) fun b hb => by have h1 := hb.2; have h2 := HS7.out; omega)
  have HSm := hide (fun (x : Later w7) => show Calls Tryz.prog 15 #[.agg #[.int .i64 t.hd.kind, .int .u64 t.hd.s0, .int .u64 t.hd.s1, .int .u64 t.hd.s2, .int .u64 t.hd.s3, .slice B t.subs.length cc, .int .i64 t.hd.num, .int .i64 t.hd.min, .int .i64 t.hd.max, .bool t.hd.bare], .agg #[.int .i64 t.hd.kind, .int .u64 t.hd.s0, .int .u64 t.hd.s1, .int .u64 t.hd.s2, .int .u64 t.hd.s3, .slice B3 t.subs.length c3, .int .i64 t.hd.num, .int .i64 t.hd.min, .int .i64 t.hd.max, .bool t.hd.bare]] x.val fun e w' => e = .returned (.bool true) ∧ Below x.val.heap.size x.val w' from by
   have h1 := same_any 10000 t t B B3 cc c3 x.val hnd (by decide) (HT1.out.next x.2) (HT3.out.next x.2)
   rw [T.same_self6] at h1
   exact h1)
  have HN := hide (fun (x : Later w7) => show Calls Tryz.prog 12 #[.nilIface] x.val fun e w' => e = .returned (.int .i64 0) ∧ Below x.val.heap.size x.val w' from (num_nil x.val).mono fun e w' h => ⟨h.1, by rw [h.2]; exact Below.refl _ _⟩)
  have HB5 := hide (show Blk w7 w2.heap.size 27 #[.int .i64 t.hd.kind, .int .u64 t.hd.s0, .int .u64 t.hd.s1, .int .u64 t.hd.s2, .int .u64 t.hd.s3, .slice B t.subs.length cc, .int .i64 t.hd.num, .int .i64 t.hd.min, .int .i64 t.hd.max, .bool t.hd.bare] from H3.out.2.2.next H3to7.out)
  have c5 := fun (x : Later w7) => (HB5.out.next x.2).cell
  have c11 := fun (x : Later w7) => (H7.out.2.2.2.next x.2).cell
  refine wp_region_later (by kernel_rfl) (by kernel_rfl) ?_
  repeat (go_big_quiet_step (first | with_reducible exact calls_later (HN.out _) | with_reducible exact calls_later (HSm.out _)))
  refine wpQuiet_nil ?_
  intro w8 hw6
  obtain ⟨x, hxe⟩ := hw6
  have hx : Below w7.heap.size w7 w8 := hxe ▸ x.2
  clear hxe x
  have HX := hide hx
  clear hx c5 c11 HN HSm
  have hn0 := fun w => run_neq_nil_nil_at (P := Tryz.prog) (w := w) 32 (by kernel_rfl)
  go_upto_region 10 with fail
  clear hn0
  have c5 := (HB5.out.next HX.out).cell
  obtain ⟨bs, ho1, ho2, ho3⟩ := H3.out.2.1
  have H3to8 := hide (H3to7.out.trans (HX.out.mono H3to7.out.size))
  have HO8 := hide (show T.Own w8 t B bs from ho1.same (fun b hb => H3to8.out.block b (ho3 b hb).2))
  have HLt := hide (fun b hb => (ho3 b hb))
  have HSp := hide (spoil_any 10000 t B cc bs w8 hnd (by decide) HO8.out ho2 (fun b hb => Nat.lt_of_lt_of_le (ho3 b hb).2 H3to8.out.size))
  simp only [Hd.cells] at HSp
  clear ho1 ho2 ho3
  go_wp2_with fail
  refine HSp.out.mono ?_
  rintro e w9 ⟨rfl, hon⟩
  have HOn := hide hon
  clear hon HSp c5
  have HW9 := hide (show Below w.heap.size w w9 from (H7.out.1.trans (HX.out.mono H7.out.1.size)).trans (HOn.out.below (B := w.heap.size) (Nat.le_trans H7.out.1.size HX.out.size) (fun b hb => Nat.le_trans H1.out.size (HLt.out b hb).1)))
  have H5to8 := hide (show Below w5.heap.size w5 w8 from H7.out.2.1.trans (HX.out.mono H7.out.2.1.size))
  have hno : ∀ b, w3.heap.size ≤ b → b ∉ bs := fun b h1 h2 => by have := (HLt.out b h2).2; omega
  have hS9 : Same (fun b => w3.heap.size ≤ b ∧ b < w8.heap.size) w8 w9 := fun b hb => HOn.out.block b hb.2 (hno b hb.1)
  obtain ⟨bs2, ho1, ho2, ho3⟩ := H5.out.2.2.1
  have HT2 := hide (show T.In w9 (· < w9.heap.size) t B2 from by
   have h4 := ho1.same (w' := w9) (fun b hb => (hS9 b ⟨(ho3 b hb).1, Nat.lt_of_lt_of_le (ho3 b hb).2 H5to8.out.size⟩).trans (H5to8.out.block b (ho3 b hb).2))
   exact h4.in_ fun b hb => Nat.lt_of_lt_of_le (Nat.lt_of_lt_of_le (ho3 b hb).2 H5to8.out.size) HOn.out.size)
  have h35 := H5.out.2.1.size
  have h57 := H7.out.2.1.size
  have h78 := HX.out.size
  have h67 := HS7.out
  have HT9 := hide (show T.In w9 (· < w9.heap.size) t B3 from H7.out.2.2.1.same (fun b hb => (hS9 b ⟨by have := hb.1; omega, by have := hb.2; omega⟩).trans (HX.out.block b (by have := hb.2; omega))) fun b hb => by have h1 := hb.2; have h2 := HOn.out.size; omega)
  have HB8 := hide (show Blk w9 g8 27 #[.int .i64 t.hd.kind, .int .u64 t.hd.s0, .int .u64 t.hd.s1, .int .u64 t.hd.s2, .int .u64 t.hd.s3, .slice B2 t.subs.length c2, .int .i64 t.hd.num, .int .i64 t.hd.min, .int .i64 t.hd.max, .bool t.hd.bare] from by
   have h1 : Blk w8 g8 27 #[.int .i64 t.hd.kind, .int .u64 t.hd.s0, .int .u64 t.hd.s1, .int .u64 t.hd.s2, .int .u64 t.hd.s3, .slice B2 t.subs.length c2, .int .i64 t.hd.num, .int .i64 t.hd.min, .int .i64 t.hd.max, .bool t.hd.bare] := H5.out.2.2.2.next H5to8.out
   exact (hS9 g8 ⟨HG8.out, h1.lt⟩).trans h1)
  have HB11 := hide (show Blk w9 w6.heap.size 43 #[.int .i64 t.hd.kind, .int .u64 t.hd.s0, .int .u64 t.hd.s1, .int .u64 t.hd.s2, .int .u64 t.hd.s3, .slice B3 t.subs.length c3, .int .i64 t.hd.num, .int .i64 t.hd.min, .int .i64 t.hd.max, .bool t.hd.bare, .int .i64 (g : Int), .int .i64 0, .int .i64 0] from by
   have h1 : Blk w8 w6.heap.size 43 #[.int .i64 t.hd.kind, .int .u64 t.hd.s0, .int .u64 t.hd.s1, .int .u64 t.hd.s2, .int .u64 t.hd.s3, .slice B3 t.subs.length c3, .int .i64 t.hd.num, .int .i64 t.hd.min, .int .i64 t.hd.max, .bool t.hd.bare, .int .i64 (g : Int), .int .i64 0, .int .i64 0] := H7.out.2.2.2.next HX.out
   exact (hS9 _ ⟨by have h1 := H5.out.2.1.size; have h2 := HS67.out; omega, h1.lt⟩).trans h1)
  clear ho1 ho2 ho3 hno hS9 h35 h57 h78 h67
  have c8 := HB8.out.cell
  have c11 := HB11.out.cell
  have HSm := hide (show Calls Tryz.prog 15 #[.agg #[.int .i64 t.hd.kind, .int .u64 t.hd.s0, .int .u64 t.hd.s1, .int .u64 t.hd.s2, .int .u64 t.hd.s3, .slice B2 t.subs.length c2, .int .i64 t.hd.num, .int .i64 t.hd.min, .int .i64 t.hd.max, .bool t.hd.bare], .agg #[.int .i64 t.hd.kind, .int .u64 t.hd.s0, .int .u64 t.hd.s1, .int .u64 t.hd.s2, .int .u64 t.hd.s3, .slice B3 t.subs.length c3, .int .i64 t.hd.num, .int .i64 t.hd.min, .int .i64 t.hd.max, .bool t.hd.bare]] w9 fun e w' => e = .returned (.bool true) ∧ Below w9.heap.size w9 w' from by
   have h1 := same_any 10000 t t B2 B3 c2 c3 w9 hnd (by decide) HT2.out HT9.out
   rw [T.same_self6] at h1
   exact h1)
  go_wp2_with fail
  refine HSm.out.mono ?_
  rintro e w10 ⟨rfl, hb10⟩
  have H10 := hide (HW9.out.trans (hb10.mono HW9.out.size))
  clear hb10 c8 c11 HSm
  go_wp2_with fail
  go_ret
  exact ⟨rfl, H10.out⟩
end Go.Proofs.YtpkcklpjbeginaaGreatDoor

/-! ## BreParsesProof -/
namespace Go.Proofs.YtpkcklpjbeginaaGreatDoor
open Go.ChangeShapes Go.WideShapes Go.ChangeAt Go.RowKit

theorem own : ownKnob Tryz.prog.godebug = none := by kernel_rfl
theorem laidOut : laidOutB Tryz.prog = true := by kernel_rfl
theorem star : ("*" ++ "errors.errorString" : String) = "*errors.errorString" := by decide
theorem rowE (u : TypeId) (h : Tryz.prog.typeName? 3 u = some "*errors.errorString") : u = 211 :=
 typeName_ptr_named (nm := "errors.errorString") (by rw [star]; kernel_rfl) (by kernel_rfl) (by decide) u (by rw [star]; exact h)
theorem glob : ((List.range 21).all fun g => (Tryz.prog.globals[g]?).map (·.type) == some 32) = true := by kernel_rfl
theorem et : Tryz.prog.globalNamed "errors.errorType" = some 21 := by kernel_rfl
theorem rt : (Tryz.prog.cutTypes.find? (·.1 == "internal/reflectlite.rtype")).map (·.2) = some 135 := by kernel_rfl
theorem oneRow : ((List.range Tryz.prog.types.size).filter fun t => Tryz.prog.rowNamed t [101, 114, 114, 111, 114]) = [32] := by kernel_rfl

theorem env_of_laid {W : World} (h : laidMetH Tryz.prog Rows.breParsesRow.laid W) : (∃ a, Errs W a) ∧ ErrT W := by
 have e : (Rows.breParsesRow.laid.filter fun x => x.2.handleName?.isSome) = [("errors.errorType", Rows.laid_errors_errorType)] := rfl
 unfold laidMetH at h
 rw [e] at h
 obtain ⟨h1, h2⟩ := h
 constructor
 ·refine errs_of_some (fun _ => true) h1 ?_ rowE (by kernel_rfl) (fun g hg => by
   have := List.all_eq_true.1 glob g (by simpa using hg)
   simpa using this)
  intro x hx _
  have hx' := (List.mem_filter.1 hx)
  obtain ⟨hx1, hx2⟩ := hx'
  simp only [Rows.breParsesRow, List.mem_cons, List.not_mem_nil, or_false] at hx1
  rcases hx1 with e | e | e | e | e | e | e | e | e | e | e | e | e | e | e | e | e | e | e | e | e | e <;> subst e <;> first | exact ⟨_, rfl⟩ | exact absurd hx2 (by decide)
 ·obtain ⟨name, u, ty, e1, e2, e3, e4, e5⟩ := h2 _ (List.mem_singleton.2 rfl)
  have en : name = [101, 114, 114, 111, 114] := (Option.some.inj e1).symm
  subst en
  obtain rfl := Option.some.inj (rt.symm.trans e2)
  have hm : ty ∈ (List.range Tryz.prog.types.size).filter fun t => Tryz.prog.rowNamed t [101, 114, 114, 111, 114] := List.mem_filter.2 ⟨List.mem_range.2 e3, e4⟩
  rw [oneRow] at hm
  obtain rfl := List.mem_singleton.1 hm
  have hh : typeHandle Tryz.prog 32 = .pointer (some ⟨26, 32, none⟩) := by kernel_rfl
  rw [hh] at e5
  have := World.var?_cell et e5 0
  unfold ErrT
  simpa using this

theorem door_met (os : Os) (args : Array Value) : laidMetH Tryz.prog Rows.breParsesRow.laid ((World.doorLaid Tryz.prog 420 os).forCall (fun _ _ => 0) ⟨#[], args, []⟩).memory :=
 laidMetH_of_parts3 (fuel := 8) (laidMet_of_run' 8 (by kernel_rfl) (by kernel_rfl)) (by kernel_rfl) (by kernel_rfl)

set_option maxRecDepth 100000 in
theorem contract (H : Type) (enc : TypeId × Value → H) (W : World) (base : Nat) (args : Array Value) (ds gs : List (DataW H)) (before : List MemPlace)
  (hval0 : ∀ (j : Nat) t v, Tryz.f4.params[j]? = some t → args[j]? = some v → Value.okWide Tryz.prog W .any base t v)
  (hW : DataW.Whole enc Tryz.prog Tryz.f4.params.toList Rows.breParsesSpec.vars false W args.toList ds gs before) (hL : laidMetH Tryz.prog Rows.breParsesRow.laid W) (hsh : W.ShapedOpen Tryz.prog) :
  Calls Tryz.prog 4 args W fun e W' => ∃ v, e = .returned v ∧ Rows.breParsesSpec.post enc Tryz.prog Tryz.f4 false true false false W args v W' := by
 have hval : ∀ (j : Nat) t v, Tryz.f4.params[j]? = some t → args[j]? = some v → Value.okWide Tryz.prog W .any base t v := hval0
 have hW' := hW
 obtain ⟨p, q, hA0, hV, rfl, hfz, hnd⟩ := hW
 have hA : DataW.TrodAll enc Tryz.prog W 0 (fun _ => true) true Tryz.f4.params.toList args.toList ds p := hA0
 rw [Tryz.params4] at hA hval
 obtain ⟨v0, vs0, d0, ds0, p0, q0, e0, rfl, rfl, h0, r0⟩ := trodAll_cons hA
 obtain ⟨v1, vs1, d1, ds1, p1, q1, e1, rfl, rfl, h1, r1⟩ := trodAll_cons r0
 obtain ⟨rfl, rfl, rfl⟩ := trodAll_nil r1
 subst e1
 obtain rfl : args = #[v0, v1] := by cases args; simp_all
 obtain ⟨rfl, rfl⟩ := trodVars_none hV
 have k0 := h0
 have lt0 : ∀ x ∈ p0, x.block < W.heap.size := by obtain ⟨m, hm⟩ := k0; exact DataW.trod_lt m _ _ _ hm
 have k1 := h1
 have lt1 : ∀ x ∈ p1, x.block < W.heap.size := by obtain ⟨m, hm⟩ := k1; exact DataW.trod_lt m _ _ _ hm
 obtain ⟨s0, e0, f0, hs0⟩ : ∃ s : ByteArray, v0 = .string s ∧ d0 = .lit (.string s.data.toList) ∧ s.size ≤ maxLen := by
  obtain ⟨s, e, f, _, hw⟩ := Go.ChangeMaps.open_string Tryz.underlying9 (hval 0 9 v0 rfl rfl) h0
  exact ⟨s, e, f, hw⟩
 subst e0
 obtain ⟨n1, e1, hn1⟩ : ∃ n : Int, v1 = .int .i64 n ∧ IsI64 n := by
  obtain ⟨n, e, _, _, hw⟩ := open_int Tryz.underlying3 (hval 1 3 v1 rfl rfl) h1
  exact ⟨n, e, bounds_i64 hw⟩
 subst e1
 obtain ⟨⟨a, ha⟩, hT⟩ := env_of_laid hL
 obtain ⟨m, hm⟩ := maxLen_int hsh
 clear hA0 hval0 hval hA
 refine (breParses_law s0 n1 a m W ⟨ha, hm⟩ hT).mono fun e W' ⟨he, bel⟩ => ?_
 subst he
 exact ⟨_, rfl, _, _, _, [], _, [], hW', trodAll_mk1 (shut_bool Tryz.underlying4 _), (trodAll_cons_mk (Below.trod laidOut (by kernel_rfl) (of_decide_eq_true (by kernel_rfl)) k0 bel lt0) (trodAll_cons_mk (Below.trod laidOut (by kernel_rfl) (of_decide_eq_true (by kernel_rfl)) k1 bel lt1) trodAll_mk0)), rfl, bel.frame _, fun h => by cases h⟩

theorem reads (os : Os) {H : Type} (enc : TypeId × Value → H) : ∃ places, DataW.whole enc Tryz.prog ((World.doorLaid Tryz.prog 420 os).forCall (fun _ _ => 0) ⟨#[], #[.string ⟨#[]⟩, .int .i64 0], []⟩).memory Tryz.f4.params.toList Rows.breParsesSpec.vars false #[.string ⟨#[]⟩, .int .i64 0].toList 8 = some ([.lit (.string []), .lit (.int .i64 0)], [], places) :=
 ⟨[], by kernel_rfl⟩

theorem witness (os : Os) (H : Type) (enc : TypeId × Value → H) : ∃ (w : World) (tape : Tape) (i : Input), w.os = os ∧ (w.forCall tape i).Shaped Tryz.checked.prog ∧ i.vars = [] ∧ Input.okWide Tryz.checked.prog (w.forCall tape i) .any w.heap.size 4 i ∧
   ((OpenSpec.ofChange Rows.breParsesSpec).preRow enc Tryz.checked.prog Tryz.f4 Rows.breParsesRow.domain false Rows.breParsesRow.laid (w.forCall tape i).memory i.args ∧ ({} : Assume).holds Tryz.checked.prog (lone (Frame.enter Tryz.checked.prog 4 i.args .normal) [] (w.forCall tape i))) := by
 obtain ⟨places, hx⟩ := reads os enc
 have hok : Input.okWideB Tryz.checked.prog ((World.doorLaid Tryz.prog 420 os).forCall (fun _ _ => 0) ⟨#[], #[.string ⟨#[]⟩, .int .i64 0], []⟩) 4 ⟨#[], #[.string ⟨#[]⟩, .int .i64 0], []⟩ = true := by kernel_rfl
 refine ⟨World.doorLaid Tryz.prog 420 os, fun _ _ => 0, ⟨#[], #[.string ⟨#[]⟩, .int .i64 0], []⟩, rfl, World.shaped_of_RefB (by kernel_rfl) (by kernel_rfl), (Input.okWide_of_okWideB (base := 0) hok).1, (Input.okWide_of_okWideB hok).2, OpenSpec.preRow_of_cond 8 hx (by kernel_rfl) (fun k hk => by cases hk) (by kernel_rfl) (door_met os _), ?_⟩
 simp only [Assume.holds]
 exact ⟨by simp, by simp, fun _ => Modest.zero, by simp, by simp⟩

set_option maxRecDepth 100000 in
theorem lifted (os : Os) (started : os.Started) (H : Type) (enc : TypeId × Value → H) (F : Stop.Interp) :
  ReturnsInHanded {} Tryz.checked os 4 .any ((OpenSpec.ofChange Rows.breParsesSpec).preRow enc Tryz.prog Tryz.f4 Rows.breParsesRow.domain false Rows.breParsesRow.laid) (((OpenSpec.ofChange Rows.breParsesSpec).at F).post enc Tryz.prog Tryz.f4 false true false false) := by
 refine returnsInHanded_of_row (C := Tryz.checked) (s := (OpenSpec.ofChange Rows.breParsesSpec)) own started (by kernel_rfl) Tryz.func4 (witness os H enc) ?_
 intro W base args ds gs before hval hW _ hcond _ hL hsh _
 exact contract H enc W base args ds gs before hval hW hL hsh

theorem said : Rows.BreParsesSaid :=
 OpenClaim.holds_of_cond 4 Tryz.f4 rfl rfl rfl rfl rfl rfl rfl ⟨rfl, rfl, rfl, rfl, rfl⟩ rfl rfl rfl rfl rfl (by kernel_rfl) Tryz.func4 (by kernel_rfl)
  (of_decide_eq_true (by kernel_rfl)) (by unfold Func.isWrapper; first | (rw [if_pos (by decide +kernel)]; kernel_rfl) | (rw [if_neg (by decide +kernel)]; exact ⟨rfl, rfl⟩))
  (fun os started H enc _ F => by rw [OpenClaim.pre_eq_preRow]; exact lifted os started H enc F)

theorem plain (f : FuncId) (fn : Func) (hf : Tryz.pinned.checked.prog.funcNamed "trawl/trawllaw07.BreParses" = some f) (hfn : Tryz.pinned.checked.prog.funcs[f]? = some fn) :
  true = Tryz.pinned.checked.prog.looks [] ∧ ∀ (j : Nat) t, fn.params[j]? = some t → Tryz.pinned.checked.prog.wantsStandIn t = false := by
 obtain rfl : f = 4 := Option.some.inj ((show Tryz.prog.funcNamed "trawl/trawllaw07.BreParses" = some 4 by kernel_rfl).symm.trans hf) |>.symm
 obtain rfl : fn = Tryz.f4 := (Option.some.inj (Tryz.func4.symm.trans hfn)).symm
 refine ⟨by kernel_rfl, fun j t ht => ?_⟩
 rw [Tryz.params4] at ht
 have hm := Array.mem_of_getElem? ht
 simp only [List.mem_toArray, List.mem_cons, List.not_mem_nil, or_false] at hm
 rcases hm with rfl | rfl
 ·exact (show Tryz.prog.wantsStandIn 9 = false by kernel_rfl)
 ·exact (show Tryz.prog.wantsStandIn 3 = false by kernel_rfl)

theorem breParses_holds : Rows.BreParsesCardSaid :=
 Claim7.holds_tied_plain_at .later [] _ _ _ _ said (fun _ h => by cases h) (by kernel_rfl) (fun _ h => by cases h) breParses_row_tie rfl ⟨rfl, rfl⟩ (by kernel_rfl) rfl plain (by kernel_rfl)
#print axioms breParses_holds
end Go.Proofs.YtpkcklpjbeginaaGreatDoor
