/- trawl/trawllaw23.PlanMeans: for every tree and two scenes, the call answers true, and what it was given reads afterwards as before; the program's variables lie as its text lays them (the card ties that). Conditions: those of the given card alone. (Printed by gen_card.py.) -/
import Derived.Test.YtbbhobojghmkpaaDoorRows17
import Derived.Test.YtbbhobojghmkpaaDoorNeedP
import Derived.Lib.Index
import Derived.Test.YtbbhobojghmkpaaDoorNeedLaw
import Derived.Test.YtbbhobojghmkpaaDoorLives23
import Derived.Test.YtbbhobojghmkpaaDoorSames
import Derived.Test.YtbbhobojghmkpaaDoorRefAll
import Derived.Test.YtbbhobojghmkpaaDoorAlgLaw
import Derived.Test.YtbbhobojghmkpaaDoorSceneNew
import Derived.Test.YtbbhobojghmkpaaDoorRows
import Derived.Test.YtbbhobojghmkpaaDoorCards
import Derived.Test.YtbbhobojghmkpaaDoorTie
import Derived.Test.YtbbhobojghmkpaaDoorReads
import Derived.WalkKit
import Derived.ProofKit
import Derived.LaidMore
import Derived.OpenShut
import Derived.ChangeOld
import Derived.Below
import Derived.Stop.Joined
import Derived.SevenTiedAt
import Derived.MakeChecks
set_option linter.unusedSimpArgs false
set_option linter.unusedVariables false
set_option linter.unnecessarySimpa false

/-! ## Seek21 -/
namespace Go.Proofs.YtbbhobojghmkpaaDoor
open Go.RowKit

/-- The shifts: 256 numbers from 1 to m. -/
def ShiftsAt (w : World) (g m : Nat) : Prop := ∃ f : Nat → Nat, InRow w g 256 f ∧ ∀ b, b < 256 → 1 ≤ f b ∧ f b ≤ m
theorem ShiftsAt.next {w w' : World} {g m : Nat} (h : ShiftsAt w g m) (hb : Below w.heap.size w w') : ShiftsAt w' g m := by
  obtain ⟨f, h1, h2⟩ := h
  exact ⟨f, h1.next hb, h2⟩
set_option maxRecDepth 100000 in
set_option maxHeartbeats 2000000 in
theorem shifts_any (text : ByteArray) (w : World) (h0 : 0 < text.size) (h1 : text.size ≤ 1000) : Calls Tryd.prog 76 #[.string text] w fun e w' => ∃ g, e = .returned (.slice (some ⟨g, 0, none⟩) 256 256) ∧ ShiftsAt w' g text.size ∧ Below w.heap.size w w' := by
  have hmk : ∀ W : World, (Instr.makeSlice 55 (.int .i64 256) (.int .i64 256)).run Tryd.prog W = .ok (.slice (some ⟨W.heap.size, 0, none⟩) 256 256) (W.alloc (.cells (madeCells #[.int .i64 0] 256) 3)) := fun W => run_inner 256 (by decide) W
  have e0 : ((text.size : Int) == 0) = false := by rw [beq_eq_false_iff_ne]; omega
  have e0' : ¬ (text.size : Int) = 0 := by omega
  have e0n : ¬ text.size = 0 := by omega
  go_enter Tryd.func76, Tryd.ntmps76
  go_wp2_with fail
  have hrow := InRow.new w 256
  have hbW := (Below.refl w.heap.size w).alloc (Nat.le_refl _) (.cells (madeCells #[.int .i64 0] 256) 3)
  have H0 := hide (And.intro hrow hbW)
  clear hrow hbW hmk
  generalize (w.alloc (.cells (madeCells #[.int .i64 0] 256) 3)) = W0 at *
  obtain ⟨g, hg⟩ : ∃ g, g = w.heap.size := ⟨_, rfl⟩
  have HG := hide hg
  rw [← hg] at H0 ⊢
  clear hg
  go_loopw [14] (fun kv wr => ∃ k : Nat, kv = .int .i64 (k : Int) ∧ k ≤ 256 ∧ InRow wr g 256 (fun j => if j < k then text.size else 0) ∧ Below w.heap.size w wr) (fun kv _ => 256 - (intOf kv).toNat)
  case atStart => exact ⟨0, rfl, by omega, H0.out.1.congr (fun i _ => by simp), by have := H0.out.2; rw [HG.out] at this; exact this⟩
  case round =>
    obtain ⟨k, rfl, hk, hr, hb⟩ := hrel
    by_cases hlt : k < 256
    · have g1 : decide ((k : Int) < 256) = true := decide_eq_true (by omega)
      have g2 : (k : Int) < 256 := by omega
      have d3 : (0 : Int) ≤ (k : Int) ∧ (k : Int) < 256 := by omega
      have cf := hr.frozen
      have cc := hr.cell k hlt
      have HH := hide (And.intro (hr.set k text.size hlt) (And.intro hr.lt hb))
      have HGle := hide (show w.heap.size ≤ g from by rw [HG.out]; exact Nat.le_refl _)
      clear hr hb
      go_wp2_with fail
      go_roundw
      case rel => exact ⟨k + 1, by go_num, hlt, HH.out.1.congr (fun i _ => by by_cases e : i = k <;> simp [e] <;> (try (by_cases e2 : i < k <;> simp [e2] <;> omega))), HH.out.2.2.trans (show Below w.heap.size wr _ from ⟨rfl, rfl, rfl, by simp, fun b hb => Below.heap_setCell _ _ _ _ (show b ≠ g by have := HGle.out; omega)⟩)⟩
      case measure => simp [intOf]; omega
    · have g1 : decide ((k : Int) < 256) = false := decide_eq_false (by omega)
      have g2 : ¬ (k : Int) < 256 := by omega
      have hm1 : ((text.size : Int) - 1) = ((text.size - 1 : Nat) : Int) := by omega
      have HH := hide (And.intro (show ∃ f : Nat → Nat, InRow wr g 256 f ∧ ∀ b, b < 256 → 1 ≤ f b ∧ f b ≤ text.size from ⟨_, hr, fun b hb => by simp [show b < k by omega]; omega⟩) hb)
      clear hr hb H0 hk hlt
      go_wp2_with fail
      rename World => W1
      go_loopw [24] (fun kv wr => ∃ k : Nat, kv = .int .i64 (k : Int) ∧ (∃ f : Nat → Nat, InRow wr g 256 f ∧ ∀ b, b < 256 → 1 ≤ f b ∧ f b ≤ text.size) ∧ Below w.heap.size w wr) (fun kv _ => text.size - (intOf kv).toNat)
      case atStart => exact ⟨0, rfl, HH.out.1, HH.out.2⟩
      case round =>
        obtain ⟨k, rfl, ⟨f, hr, hf⟩, hb⟩ := hrel
        by_cases hlt : k < text.size - 1
        · have g3 : decide ((k : Int) < (text.size : Int) - 1) = true := decide_eq_true (by omega)
          have g4 : (k : Int) < (text.size : Int) - 1 := by omega
          have hkt : k < text.size := by omega
          have d3 : (0 : Int) ≤ (k : Int) ∧ (k : Int) < (text.size : Int) := by omega
          have hb256 := (text[k]'hkt).toNat_lt
          have hsub : ((text.size : Int) - 1 - (k : Int)) = ((text.size - 1 - k : Nat) : Int) := by omega
          have cf := hr.frozen
          have cc := hr.cell ((text[k]'hkt).toNat) hb256
          have HR := hide (And.intro (hr.set ((text[k]'hkt).toNat) (text.size - 1 - k) hb256) (And.intro hf hb))
          have HGle := hide (show w.heap.size ≤ g from by rw [HG.out]; exact Nat.le_refl _)
          clear hr hb HH hf
          go_wp2_with fail
          go_roundw
          case rel => exact ⟨k + 1, by go_num, ⟨fun j => if j = (text[k]'hkt).toNat then text.size - 1 - k else f j, (by have h := HR.out.1; rw [show ((text.size - 1 - k : Nat) : Int) = ((text.size - 1 : Nat) : Int) - (k : Int) by omega] at h; exact h), fun b hb => by
            show 1 ≤ (if b = (text[k]'hkt).toNat then text.size - 1 - k else f b) ∧ (if b = (text[k]'hkt).toNat then text.size - 1 - k else f b) ≤ text.size
            by_cases e : b = (text[k]'hkt).toNat
            · rw [if_pos e]; omega
            · rw [if_neg e]; exact HR.out.2.1 b hb⟩, HR.out.2.2.trans (show Below w.heap.size wr _ from ⟨rfl, rfl, rfl, by simp, fun b hb => Below.heap_setCell _ _ _ _ (show b ≠ g by have := HGle.out; omega)⟩)⟩
          case measure => simp [intOf]; omega
        · have g3 : decide ((k : Int) < (text.size : Int) - 1) = false := decide_eq_false (by omega)
          have g4 : ¬ (k : Int) < (text.size : Int) - 1 := by omega
          have HR := hide (And.intro (show ShiftsAt wr g text.size from ⟨f, hr, hf⟩) hb)
          clear hr hb HH hf
          go_wp2_with fail
          go_ret
          exact ⟨g, rfl, HR.out.1, HR.out.2⟩
theorem occAt_iff (L M : List UInt8) (k : Nat) : Lib.occAt L M k = true ↔ ∀ j, j < M.length → L[k + j]? = M[j]? := by
  unfold Lib.occAt
  rw [List.isPrefixOf_iff_prefix, List.prefix_iff_getElem?]
  constructor
  · intro h j hj
    have := h j hj
    rw [List.getElem?_drop] at this
    rw [this, List.getElem?_eq_getElem hj]
  · intro h j hj
    rw [List.getElem?_drop, h j hj, List.getElem?_eq_getElem hj]
theorem occAt_len {L M : List UInt8} {k : Nat} (h0 : 0 < M.length) (h : Lib.occAt L M k = true) : k + M.length ≤ L.length := by
  have h1 := (occAt_iff L M k).1 h (M.length - 1) (by omega)
  rw [List.getElem?_eq_getElem (l := M) (by omega)] at h1
  obtain ⟨h2, _⟩ := List.getElem?_eq_some_iff.1 h1
  omega
theorem byte_at {s : ByteArray} {n : Nat} (h : n < s.size) : s.data.toList[n]? = some (s[n]'h) := by
  rw [List.getElem?_eq_getElem (by rw [Array.length_toList]; exact h)]
  rfl
set_option maxRecDepth 100000 in
set_option maxHeartbeats 4000000 in
theorem found_any (s text : ByteArray) (i g : Nat) (w : World) (h0 : 0 < text.size) (h1 : text.size ≤ 1000) (hs : s.size ≤ 1000) (hi : i ≤ s.size) (hsh : ShiftsAt w g text.size) :
    Calls Tryd.prog 75 #[.string s, .string text, .int .i64 (i : Int), .slice (some ⟨g, 0, none⟩) 256 256] w fun e w' => ∃ q : Int, e = .returned (.int .i64 q) ∧ (q = (i : Int) ↔ Lib.occAt s.data.toList text.data.toList i = true) ∧ Below w.heap.size w w' := by
  have htl : text.data.toList.length = text.size := Array.length_toList
  have hsl : s.data.toList.length = s.size := Array.length_toList
  have HSH := hide hsh
  have HL := hide (And.intro htl hsl)
  clear hsh htl hsl
  go_enter Tryd.func75, Tryd.ntmps75
  go_wp2_with fail
  go_loopw [10] (fun iv wr => ∃ k : Nat, iv = .int .i64 (k : Int) ∧ i ≤ k ∧ k ≤ s.size ∧ (i < k → Lib.occAt s.data.toList text.data.toList i = false) ∧ Below w.heap.size w wr) (fun iv _ => s.size + 1 - (intOf iv).toNat)
  case atStart => exact ⟨i, rfl, Nat.le_refl _, hi, fun h => by omega, Below.refl _ _⟩
  case round =>
    obtain ⟨k, rfl, hik, hks, hno, hb⟩ := hrel
    have HNO := hide hno
    have HB := hide hb
    clear hno hb
    by_cases hle : k + text.size ≤ s.size
    case neg =>
      have g1 : decide ((k : Int) ≤ (s.size : Int) - (text.size : Int)) = false := decide_eq_false (by omega)
      have g2 : ¬ (k : Int) ≤ (s.size : Int) - (text.size : Int) := by omega
      go_wp2_with fail
      go_ret
      refine ⟨-1, rfl, ⟨fun h => by omega, fun h => ?_⟩, HB.out⟩
      have hl := occAt_len (by rw [HL.out.1]; exact h0) h
      rw [HL.out.1, HL.out.2] at hl
      by_cases e : i < k
      · have := HNO.out e
        rw [h] at this
        cases this
      · omega
    have g1 : decide ((k : Int) ≤ (s.size : Int) - (text.size : Int)) = true := decide_eq_true (by omega)
    have g2 : (k : Int) ≤ (s.size : Int) - (text.size : Int) := by omega
    go_wp2_with fail
    rename World => W1
    go_loopw [11] (fun kv wr => ∃ z : Int, kv = .int .i64 z ∧ -1 ≤ z ∧ z < (text.size : Int) ∧ (∀ j : Nat, z < (j : Int) → j < text.size → s.data.toList[k + j]? = text.data.toList[j]?) ∧ Below w.heap.size w wr) (fun kv _ => (intOf kv + 1).toNat)
    case atStart => exact ⟨(text.size : Int) - 1, by go_num, by omega, by omega, fun j h1 h2 => by omega, HB.out⟩
    case round =>
      obtain ⟨z, rfl, hz1, hz2, hmt, hb⟩ := hrel
      have HM := hide hmt
      have HB2 := hide hb
      clear hmt hb
      by_cases hz0 : z < 0
      · have q1 : decide (0 ≤ z) = false := decide_eq_false (by omega)
        have q2 : ¬ 0 ≤ z := by omega
        have q3 : decide (z < 0) = true := decide_eq_true hz0
        go_upto_region 6 with fail
        refine wp_region_later (by kernel_rfl) (by kernel_rfl) ?_
        repeat (go_big_quiet_step (fail))
        refine wpQuiet_nil ?_
        rintro w6 ⟨x, rfl⟩
        have HF := hide (HB2.out.trans (x.2.mono HB2.out.size))
        go_wp2_with fail
        go_ret
        refine ⟨(k : Int), rfl, ?_, HF.out⟩
        have hall : Lib.occAt s.data.toList text.data.toList k = true := (occAt_iff _ _ _).2 fun j hj => HM.out j (by omega) (by rw [HL.out.1] at hj; exact hj)
        by_cases e : i < k
        · refine ⟨fun h => by omega, fun h => ?_⟩
          have := HNO.out e
          rw [h] at this
          cases this
        · have : k = i := by omega
          subst this
          exact ⟨fun _ => hall, fun _ => rfl⟩
      obtain ⟨j, rfl⟩ : ∃ j : Nat, z = (j : Int) := ⟨z.toNat, by omega⟩
      have q1 : decide (0 ≤ (j : Int)) = true := decide_eq_true (by omega)
      have q3 : decide ((j : Int) < 0) = false := decide_eq_false (by omega)
      obtain ⟨n, hn⟩ : ∃ n, n = k + j := ⟨_, rfl⟩
      have hns : n < s.size := by omega
      have hjt : j < text.size := by omega
      have hkj : (k : Int) + (j : Int) = (n : Int) := by omega
      have d1 : (0 : Int) ≤ (n : Int) ∧ (n : Int) < (s.size : Int) := by omega
      have d2 : (0 : Int) ≤ (j : Int) ∧ (j : Int) < (text.size : Int) := by omega
      have hb1 := (s[n]'hns).toNat_lt
      have hb2 := (text[j]'hjt).toNat_lt
      by_cases heq : s[n]'hns = text[j]'hjt
      · have hc0 : (s[n]'hns).toNat = (text[j]'hjt).toNat := by rw [heq]
        have hc1 : (((s[n]'hns).toNat : Int) == ((text[j]'hjt).toNat : Int)) = true := by rw [hc0]; simp
        have hc2 : ((s[n]'hns).toNat : Int) = ((text[j]'hjt).toNat : Int) := by rw [hc0]
        have HE := hide heq
        have HN := hide hn
        clear heq hn
        go_upto_region 6 with fail
        refine wp_region_later (by kernel_rfl) (by kernel_rfl) ?_
        repeat (go_big_quiet_step (fail))
        refine wpQuiet_nil ?_
        rintro w6 ⟨x, rfl⟩
        have HF := hide (HB2.out.trans (x.2.mono HB2.out.size))
        go_wp2_with fail
        go_roundw
        case rel =>
          refine ⟨(j : Int) - 1, by go_num, by omega, by omega, fun r h3 h4 => ?_, HF.out⟩
          by_cases e : r = j
          · subst e
            rw [← HN.out, byte_at hns, byte_at hjt, HE.out]
          · exact HM.out r (by omega) h4
        case measure => simp [intOf] <;> omega
      · have hc0 : ¬ (s[n]'hns).toNat = (text[j]'hjt).toNat := fun e => heq (UInt8.toNat_inj.1 e)
        have hc1 : (((s[n]'hns).toNat : Int) == ((text[j]'hjt).toNat : Int)) = false := by rw [beq_eq_false_iff_ne]; omega
        have hc2 : ¬ ((s[n]'hns).toNat : Int) = ((text[j]'hjt).toNat : Int) := by omega
        have hoc : Lib.occAt s.data.toList text.data.toList k = false := by
          cases ho : Lib.occAt s.data.toList text.data.toList k with
          | false => rfl
          | true =>
            have h3 := (occAt_iff _ _ _).1 ho j (by rw [HL.out.1]; exact hjt)
            rw [← hn, byte_at hns, byte_at hjt] at h3
            exact absurd (Option.some.inj h3) heq
        have HO := hide hoc
        clear heq hoc hn
        go_upto_region 6 with fail
        refine wp_region_later (by kernel_rfl) (by kernel_rfl) ?_
        repeat (go_big_quiet_step (fail))
        refine wpQuiet_nil ?_
        rintro w6 ⟨x, rfl⟩
        have HF := hide (HB2.out.trans (x.2.mono HB2.out.size))
        obtain ⟨f, hrow, hf⟩ := HSH.out.next HF.out
        obtain ⟨n1, hn1⟩ : ∃ n1, n1 = k + text.size := ⟨_, rfl⟩
        obtain ⟨n2, hn2⟩ : ∃ n2, n2 = k + text.size - 1 := ⟨_, rfl⟩
        have hkm : (k : Int) + (text.size : Int) = (n1 : Int) := by omega
        have hkm1 : (n1 : Int) - 1 = (n2 : Int) := by omega
        have hn2s : n2 < s.size := by omega
        have d3 : (0 : Int) ≤ (n2 : Int) ∧ (n2 : Int) < (s.size : Int) := by omega
        have hb3 := (s[n2]'hn2s).toNat_lt
        have hfb := hf _ hb3
        have cc := hrow.cell _ hb3
        obtain ⟨fb, hfbe⟩ : ∃ fb, fb = f ((s[n2]'hn2s).toNat) := ⟨_, rfl⟩
        rw [← hfbe] at hfb cc
        have hk0 : k ≤ n2 := by omega
        have HK := hide (And.intro hn1 hn2)
        clear hn1 hn2 hrow hf hfbe hc0 hc1 hc2 hkj hb1 hb2
        go_wp2_with fail
        go_roundw
        case rel =>
          refine ⟨k + fb, by go_num, by omega, by omega, fun _ => ?_, HF.out⟩
          by_cases e : i < k
          · exact HNO.out e
          · have : i = k := by omega
            rw [this]; exact HO.out
        case measure => simp [intOf]; omega
set_option maxRecDepth 100000 in
set_option maxHeartbeats 1000000 in
theorem seekIndex_any (s text : ByteArray) (i : Nat) (w : World) (h1 : text.size ≤ 1000) (hs : s.size ≤ 1000) (hi : i ≤ s.size) :
    Calls Tryd.prog 40 #[.string s, .string text, .int .i64 (i : Int)] w fun e w' => ∃ q : Int, e = .returned (.int .i64 q) ∧ (q = (i : Int) ↔ Lib.occAt s.data.toList text.data.toList i = true) ∧ Below w.heap.size w w' := by
  have q1 : decide ((i : Int) < 0) = false := decide_eq_false (by omega)
  have q2 : ¬ (i : Int) < 0 := by omega
  have q3 : decide ((s.size : Int) < (i : Int)) = false := decide_eq_false (by omega)
  have q4 : ¬ (s.size : Int) < (i : Int) := by omega
  by_cases h0 : text.size = 0
  · have e1 : text.toList.isEmpty = true := by rw [show text = ⟨#[]⟩ from size_zero h0, ByteArray.toList_eq] <;> rfl
    have e2 : text.toList = [] := by rw [show text = ⟨#[]⟩ from size_zero h0, ByteArray.toList_eq] <;> rfl
    have HO := hide (show Lib.occAt s.data.toList text.data.toList i = true from by rw [show text = ⟨#[]⟩ from size_zero h0]; simp [Lib.occAt])
    clear h0
    go_enter Tryd.func40, Tryd.ntmps40
    go_wp2_with fail
    go_ret
    exact ⟨_, rfl, ⟨fun _ => HO.out, fun _ => rfl⟩, Below.refl _ _⟩
  · have e1 : text.toList.isEmpty = false := by
      rw [List.isEmpty_eq_false_iff, ByteArray.toList_eq]
      intro h
      exact h0 (by have := congrArg List.length h; rw [Array.length_toList] at this; exact this)
    have e2 : ¬ text.toList = [] := by
      rw [ByteArray.toList_eq]
      intro h
      exact h0 (by have := congrArg List.length h; rw [Array.length_toList] at this; exact this)
    go_enter Tryd.func40, Tryd.ntmps40
    go_wp2_with fail
    refine (shifts_any text w (by omega) h1).mono ?_
    rintro e w1 ⟨g, rfl, hsh, hb⟩
    have HH := hide (And.intro hsh hb)
    clear hsh hb
    go_wp2_with fail
    refine (found_any s text i g w1 (by omega) h1 hs hi HH.out.1).mono ?_
    rintro e w2 ⟨q, rfl, hq, hb⟩
    have HF := hide (And.intro hq (HH.out.2.trans (hb.mono HH.out.2.size)))
    clear hq hb HH
    go_wp2_with fail
    go_ret
    exact ⟨q, rfl, HF.out.1, HF.out.2⟩
end Go.Proofs.YtbbhobojghmkpaaDoor

/-! ## PlanLaw -/
namespace Go.Proofs.YtbbhobojghmkpaaDoor
open Go.RowKit

section
variable {x y : Sc}
theorem rseq_to : ∀ (l : List T) (i j : Nat), (∀ t ∈ l, ∀ i j, t.R x i j → t.R y i j) → TL.Rseq x l i j → TL.Rseq y l i j
  | [], _, _, _, h => h
  | t :: l, i, j, H, ⟨m, h1, h2⟩ => ⟨m, H t (by simp) i m h1, rseq_to l m j (fun t ht => H t (by simp [ht])) h2⟩
theorem ralt_to : ∀ (l : List T) (i j : Nat), (∀ t ∈ l, ∀ i j, t.R x i j → t.R y i j) → TL.Ralt x l i j → TL.Ralt y l i j
  | [], _, _, _, h => h
  | t :: l, i, j, H, h => h.elim (fun h => .inl (H t (by simp) i j h)) fun h => .inr (ralt_to l i j (fun t ht => H t (by simp [ht])) h)
theorem rone_to : ∀ (l : List T) (i j : Nat), (∀ t ∈ l, ∀ i j, t.R x i j → t.R y i j) → TL.Rone x l i j → TL.Rone y l i j
  | [], _, _, _, h => h
  | t :: l, i, j, H, h => H t (by simp) i j h
theorem iter_to {R R' : Nat → Nat → Prop} (H : ∀ i j, R i j → R' i j) : ∀ k i j, Iter R k i j → Iter R' k i j
  | 0, _, _, h => h
  | k + 1, i, j, ⟨m, h1, h2⟩ => ⟨m, iter_to H k i m h1, H m j h2⟩
end
theorem TL.kb_mem : ∀ (l : List T) (b : Nat), (TL.kb l).testBit b = false → ∀ t ∈ l, t.kb.testBit b = false
  | [], _, _, t, h => by cases h
  | u :: l, b, h, t, ht => by
    rw [TL.kb, Nat.testBit_or, Bool.or_eq_false_iff] at h
    rcases List.mem_cons.1 ht with rfl | ht
    · exact h.1
    · exact TL.kb_mem l b h.2 t ht
theorem T.kb_own {h : Hd} {l : List T} {b : Nat} (hb : (T.mk h l).kb.testBit b = false) : h.kind.toNat ≠ b ∧ (TL.kb l).testBit b = false := by
  rw [T.kb, Nat.testBit_or, Bool.or_eq_false_iff, Nat.testBit_two_pow] at hb
  exact ⟨by simpa using hb.1, hb.2⟩
mutual
/-- A tree without anchors takes the same in every scene of the same bytes. -/
theorem T.R_text {x y : Sc} (he : x.text = y.text) : ∀ (t : T), t.kb.testBit 3 = false → t.kb.testBit 4 = false → ∀ i j, t.R x i j → t.R y i j
  | .mk h l, h3, h4, i, j, hr => by
    obtain ⟨a3, b3⟩ := T.kb_own h3
    obtain ⟨a4, b4⟩ := T.kb_own h4
    have H : ∀ t ∈ l, ∀ i j, t.R x i j → t.R y i j := TL.R_text he l b3 b4
    simp only [T.R] at hr ⊢
    have hlen : x.len = y.len := by unfold Sc.len; rw [he]
    split
    · rename_i k; rw [if_pos k] at hr; exact hr
    rename_i k1; rw [if_neg k1] at hr
    split
    · rename_i k; rw [if_pos k, he, hlen] at hr; exact hr
    rename_i k2; rw [if_neg k2] at hr
    split
    · rename_i k; omega
    rename_i k3; rw [if_neg k3] at hr
    split
    · rename_i k; omega
    rename_i k4; rw [if_neg k4] at hr
    split
    · rename_i k; rw [if_pos k] at hr; exact rseq_to l i j H hr
    rename_i k5; rw [if_neg k5] at hr
    split
    · rename_i k; rw [if_pos k] at hr; exact ralt_to l i j H hr
    rename_i k6; rw [if_neg k6] at hr
    split
    · rename_i k; rw [if_pos k] at hr; exact rone_to l i j H hr
    rename_i k7; rw [if_neg k7] at hr
    obtain ⟨k, h1, h2, h3⟩ := hr
    exact ⟨k, h1, h2, iter_to (fun i j h => rone_to l i j H h) k i j h3⟩
theorem TL.R_text {x y : Sc} (he : x.text = y.text) : ∀ (l : List T), (TL.kb l).testBit 3 = false → (TL.kb l).testBit 4 = false → ∀ t ∈ l, ∀ i j, t.R x i j → t.R y i j
  | [], _, _, t, ht, _, _, _ => by cases ht
  | u :: l, h3, h4, t, ht, i, j, hr => by
    rw [TL.kb, Nat.testBit_or, Bool.or_eq_false_iff] at h3 h4
    rcases List.mem_cons.1 ht with h | ht
    · rw [h] at hr ⊢; exact T.R_text he u h3.1 h4.1 i j hr
    · exact TL.R_text he l h3.2 h4.2 t ht i j hr
end
theorem TL.noths_map : ∀ l : List T, TL.noths l = l.map T.nothing
  | [] => rfl
  | t :: l => by rw [TL.noths, TL.noths_map l]; rfl
theorem rseq_none {x : Sc} : ∀ (l : List T) (i j : Nat), (∃ t ∈ l, ∀ i j, ¬ t.R x i j) → ¬ TL.Rseq x l i j
  | [], _, _, ⟨t, ht, _⟩, _ => by cases ht
  | u :: l, i, j, ⟨t, ht, hn⟩, ⟨m, h1, h2⟩ => by
    rcases List.mem_cons.1 ht with h | ht
    · rw [h] at hn; exact hn i m h1
    · exact rseq_none l m j ⟨t, ht, hn⟩ h2
theorem ralt_none {x : Sc} : ∀ (l : List T) (i j : Nat), (∀ t ∈ l, ∀ i j, ¬ t.R x i j) → ¬ TL.Ralt x l i j
  | [], _, _, _, h => h
  | u :: l, i, j, H, h => h.elim (H u (by simp) i j) (ralt_none l i j fun t ht => H t (by simp [ht]))
mutual
/-- What takes nothing for sure takes nothing. -/
theorem T.nothing_R (x : Sc) : ∀ (t : T), t.form = true → t.nothing = true → ∀ i j, ¬ t.R x i j
  | .mk h l, hf, hn, i, j, hr => by
    have hk := T.form_kind hf
    have H := TL.nothing_R x l (T.form_sub hf)
    simp only [T.hd, T.subs] at hk
    rw [T.nothing, TL.noths_map] at hn
    unfold nothK at hn
    simp only [T.R] at hr
    rcases hk with k | k | k | k | k | k | ⟨k, kl⟩ | ⟨k, kl⟩
    · simp [k] at hn
    · simp [k] at hn
    · simp [k] at hn
    · simp [k] at hn hr
      have hh := hr.2.2
      obtain ⟨⟨⟨e0, e1⟩, e2⟩, e3⟩ := hn
      unfold Hd.has Hd.word at hh
      rw [e0, e1, e2, e3] at hh
      simp at hh
    · simp [k] at hn hr
      obtain ⟨t, ht, hb⟩ := hn
      exact rseq_none l i j ⟨t, ht, H t ht hb⟩ hr
    · simp [k] at hn hr
      exact ralt_none l i j (fun t ht => H t ht (hn t ht)) hr
    · obtain ⟨u, rfl⟩ := List.length_eq_one_iff.1 kl
      simp [k] at hn hr
      exact H u (by simp) hn i j hr
    · obtain ⟨u, rfl⟩ := List.length_eq_one_iff.1 kl
      have hmin := T.form_min hf k
      simp [k] at hn hr
      obtain ⟨n, h1, h2, hit⟩ := hr
      obtain ⟨n', rfl⟩ : ∃ n', n = n' + 1 := ⟨n - 1, by omega⟩
      obtain ⟨m, g1, g2⟩ := Iter.front.1 hit
      exact H u (by simp) hn.2 i m g1
theorem TL.nothing_R (x : Sc) : ∀ (l : List T), TL.form l = true → ∀ t ∈ l, t.nothing = true → ∀ i j, ¬ t.R x i j
  | [], _, t, ht, _, _, _ => by cases ht
  | u :: l, hf, t, ht, hn, i, j => by
    rw [TL.form, Bool.and_eq_true] at hf
    rcases List.mem_cons.1 ht with h | ht
    · rw [h] at hn ⊢; exact T.nothing_R x u hf.1 hn i j
    · exact TL.nothing_R x l hf.2 t ht hn i j
end
/-- The text stands at a place. -/
def StandsAt (x : Sc) (i : Nat) (l : List UInt8) : Prop := i + l.length ≤ x.len ∧ pc x.bytes i (i + l.length) = l
theorem StandsAt.app {x : Sc} {i : Nat} {a b : List UInt8} (h : StandsAt x i (a ++ b)) : StandsAt x i a ∧ StandsAt x (i + a.length) b := by
  obtain ⟨h1, h2⟩ := h
  rw [List.length_append] at h1 h2
  rw [pc_split (m := i + a.length) (by omega) (by omega)] at h2
  have hl : (pc x.bytes i (i + a.length)).length = a.length := by rw [pc_len (by rw [x.bytes_len]; omega)]; omega
  obtain ⟨e1, e2⟩ := List.append_inj h2 hl
  exact ⟨⟨by omega, e1⟩, ⟨by omega, by rw [Nat.add_assoc]; exact e2⟩⟩
theorem seq_takes {x : Sc} : ∀ (l : List T) (acc s : ByteArray), (∀ t ∈ l, ∀ (s : ByteArray) (i : Nat), t.only = some s → StandsAt x i s.data.toList → t.R x i (i + s.data.toList.length)) → seqO acc (TL.onlys l) = some s →
    ∃ r : List UInt8, s.data.toList = acc.data.toList ++ r ∧ ∀ i, StandsAt x i r → TL.Rseq x l i (i + r.length)
  | [], acc, s, _, e => by
    obtain rfl := Option.some.inj e
    exact ⟨[], by simp, fun i _ => rfl⟩
  | t :: l, acc, s, H, e => by
    rw [TL.onlys] at e
    cases ho : t.only with
    | none => rw [ho] at e; cases e
    | some u =>
      rw [ho, seqO] at e
      split at e
      · cases e
      · obtain ⟨r, h1, h2⟩ := seq_takes l _ s (fun t ht => H t (by simp [ht])) e
        refine ⟨u.data.toList ++ r, by rw [h1]; simp, fun i hs => ?_⟩
        obtain ⟨s1, s2⟩ := hs.app
        refine ⟨i + u.data.toList.length, H t (by simp) u i ho s1, ?_⟩
        have := h2 _ s2
        rw [List.length_append, ← Nat.add_assoc]
        exact this
theorem iter_takes {x : Sc} {R : Nat → Nat → Prop} {v : List UInt8} (H : ∀ i, StandsAt x i v → R i (i + v.length)) : ∀ (k i : Nat), StandsAt x i (Lib.repeatL v k) → Iter R k i (i + (Lib.repeatL v k).length)
  | 0, i, _ => rfl
  | k + 1, i, h => by
    have e : Lib.repeatL v (k + 1) = Lib.repeatL v k ++ v := by rw [Lib.repeatL_add v k 1]; simp [Lib.repeatL]
    rw [e] at h ⊢
    obtain ⟨s1, s2⟩ := h.app
    refine ⟨_, iter_takes H k i s1, ?_⟩
    have := H _ s2
    rw [List.length_append, ← Nat.add_assoc]
    exact this
theorem ralt_mem {x : Sc} : ∀ (l : List T) (i j : Nat) (t : T), t ∈ l → t.R x i j → TL.Ralt x l i j
  | [], _, _, _, h, _ => by cases h
  | u :: l, i, j, t, ht, hr => by
    rcases List.mem_cons.1 ht with h | ht
    · rw [h] at hr; exact .inl hr
    · exact .inr (ralt_mem l i j t ht hr)
mutual
/-- A tree of one text, without anchors, takes that text wherever it stands. -/
theorem T.only_takes (x : Sc) : ∀ (t : T), t.form = true → t.kb.testBit 3 = false → t.kb.testBit 4 = false → t.nothing = false → ∀ (s : ByteArray) (i : Nat), t.only = some s → StandsAt x i s.data.toList → t.R x i (i + s.data.toList.length)
  | .mk h l, hf, h3, h4, hn, s, i, ho, hs => by
    obtain ⟨a3, b3⟩ := T.kb_own h3
    obtain ⟨a4, b4⟩ := T.kb_own h4
    have hk := T.form_kind hf
    have H := TL.only_takes x l (T.form_sub hf) b3 b4
    simp only [T.hd, T.subs] at hk
    rw [T.nothing, TL.noths_map] at hn
    unfold nothK at hn
    rw [T.only] at ho
    unfold Hd.only at ho
    simp only [T.R]
    rcases hk with k | k | k | k | k | k | ⟨k, kl⟩ | ⟨k, kl⟩
    · simp [k] at ho ⊢
      subst ho
      rfl
    · omega
    · omega
    · simp [k] at ho ⊢
      obtain ⟨hc, rfl⟩ := ho
      obtain ⟨g1, g2⟩ := hs
      have hi : i < x.bytes.length := by rw [x.bytes_len]; simp at g1; omega
      have g3 : pc x.bytes i (i + 1) = [h.first.toUInt8] := g2
      rw [pc_one hi] at g3
      have g4 : x.bytes[i] = h.first.toUInt8 := by simpa using g3
      have g5 : x.text.data.toList.getD i 0 = x.bytes[i] := by
        rw [List.getD_eq_getElem?_getD, show x.text.data.toList = x.bytes from rfl, List.getElem?_eq_getElem hi]
        rfl
      have hlt : h.first < 256 ∧ h.has h.first = true := by
        unfold Hd.first
        cases hq : (List.range 256).find? fun b => h.has b with
        | none =>
          have hz : cntb (fun b => h.has b) 256 = 0 := by
            have hall : ∀ b, b < 256 → h.has b = false := fun b hb => by
              have := List.find?_eq_none.1 hq b (List.mem_range.2 hb)
              simpa using this
            rw [cntb_congr (g := fun _ => false) 256 hall]
            decide +kernel
          rw [Hd.count, hz] at hc
          cases hc
        | some b => exact ⟨List.mem_range.1 (List.mem_of_find?_eq_some hq), by simpa using List.find?_some hq⟩
      refine ⟨rfl, by rw [← x.bytes_len]; exact hi, ?_⟩
      have g6 : x.text.data.toList.getD i 0 = h.first.toUInt8 := g5.trans g4
      have g7 : (h.first.toUInt8).toNat = h.first := by
        show (UInt8.ofNat h.first).toNat = h.first
        rw [UInt8.toNat_ofNat']
        omega
      have g8 : h.has (x.text.data.toList.getD i 0).toNat = true := by rw [g6, g7]; exact hlt.2
      simpa using g8
    · simp [k] at ho hn ⊢
      obtain ⟨r, h1, h2⟩ := seq_takes l ⟨#[]⟩ s (fun t ht => H t ht (hn t ht)) ho
      have e : s.data.toList = r := by rw [h1]; rfl
      rw [e] at hs
      have hh := h2 i hs
      rw [← e] at hh
      simpa using hh
    · simp [k] at ho hn ⊢
      obtain ⟨t, ht, hb⟩ := hn
      have := ralt_mem l _ _ t ht (H t ht hb s i (alt_only l s ho t ht) hs)
      simpa using this
    · obtain ⟨u, rfl⟩ := List.length_eq_one_iff.1 kl
      simp [k] at ho hn ⊢
      have := H u (by simp) hn s i ho hs
      show T.R x u i (i + s.size)
      simpa using this
    · obtain ⟨u, rfl⟩ := List.length_eq_one_iff.1 kl
      have hmin := T.form_min hf k
      have hmx := rep_form (by rw [T.form_eq, Bool.and_eq_true] at hf; exact hf.1) k
      simp only [T.hd, k] at ho hmx
      rw [if_neg (by omega), if_neg (by omega), if_pos k] at hn
      rw [if_neg (by decide), if_neg (by decide), if_pos trivial] at ho
      rw [if_neg (by omega), if_neg (by omega), if_neg (by omega), if_neg (by omega), if_neg (by omega), if_neg (by omega), if_neg (by omega)]
      by_cases hm0 : h.max = 0
      · rw [if_pos hm0] at ho
        obtain rfl := Option.some.inj ho
        exact ⟨0, by omega, by omega, rfl⟩
      · rw [if_neg hm0] at ho
        simp only [TL.onlys, hd1] at ho
        cases hu : u.only with
        | none => rw [hu] at ho; cases ho
        | some v =>
          rw [hu, repO] at ho
          split at ho
          · rename_i hz
            obtain rfl := Option.some.inj ho
            by_cases hm : h.min = 0
            · exact ⟨0, by omega, by omega, rfl⟩
            · rw [if_neg hm] at hn
              simp at hn
              have hv := size_zero hz
              have hR := H u (by simp) hn v
              rw [hv] at hR
              have hi := iter_takes (x := x) (R := u.R x) (v := []) (fun i hi => hR i (by rw [hu, hv]) hi) h.min.toNat i (by rw [repeatL_nil]; exact hs)
              rw [repeatL_nil] at hi
              exact ⟨h.min.toNat, by omega, by omega, hi⟩
          · split at ho
            · cases ho
            · rename_i hmm
              obtain rfl := Option.some.inj ho
              rw [if_neg (by omega)] at hn
              simp at hn
              have e : (rept v h.min.toNat).data.toList = Lib.repeatL v.data.toList h.min.toNat := by simp [rept]
              rw [e] at hs ⊢
              exact ⟨h.min.toNat, by omega, by omega, iter_takes (R := u.R x) (fun i hi => H u (by simp) hn v i hu hi) h.min.toNat i hs⟩
theorem TL.only_takes (x : Sc) : ∀ (l : List T), TL.form l = true → (TL.kb l).testBit 3 = false → (TL.kb l).testBit 4 = false → ∀ t ∈ l, t.nothing = false → ∀ (s : ByteArray) (i : Nat), t.only = some s → StandsAt x i s.data.toList → t.R x i (i + s.data.toList.length)
  | [], _, _, _, t, ht, _, _, _, _, _ => by cases ht
  | u :: l, hf, h3, h4, t, ht, hn, s, i, ho, hs => by
    rw [TL.form, Bool.and_eq_true] at hf
    rw [TL.kb, Nat.testBit_or, Bool.or_eq_false_iff] at h3 h4
    rcases List.mem_cons.1 ht with h | ht
    · rw [h] at hn ho ⊢; exact T.only_takes x u hf.1 h3.1 h4.1 hn s i ho hs
    · exact TL.only_takes x l hf.2 h3.2 h4.2 t ht hn s i ho hs
end
theorem EndsOf.sorted23 {R : Nat → Nat → Prop} {n i : Nat} {l : List Int} (h : EndsOf R n i l) : l.Pairwise (· < ·) := by
  obtain ⟨tw, h1, h2, rfl⟩ := h
  have hs : (List.range 64).Pairwise (· < ·) := List.pairwise_lt_range
  have hp : (places tw).Pairwise (· < ·) := hs.sublist List.filter_sublist
  exact List.pairwise_map.2 (hp.imp fun h => by omega)
theorem stands_iff {x : Sc} {i : Nat} {M : List UInt8} (hi : i ≤ x.len) : Lib.occAt x.bytes M i = true ↔ StandsAt x i M := by
  unfold Lib.occAt StandsAt pc
  rw [List.isPrefixOf_iff_prefix, List.prefix_iff_eq_take, show i + M.length - i = M.length by omega]
  constructor
  · intro h
    have hl := congrArg List.length h
    rw [List.length_take, List.length_drop, x.bytes_len] at hl
    exact ⟨by omega, h.symm⟩
  · intro h
    exact h.2.symm
/-- What the tags say of the ends of the pieces from one place on. -/
theorem means_facts {x y : Sc} (hm : ∀ i, x.mark i < 4) {t : T} (hck : t.check = none) (htx : x.text = y.text) {i : Nat} (hi : i ≤ x.len) (hl : x.len ≤ 63) {r1 r2 : List Int} (h1 : EndsOf (t.R x) x.len i r1) (h2 : EndsOf (t.R y) y.len i r2) :
    (t.nothing = true → r1 = []) ∧ (t.mayNull = false → ∀ r', r1 ≠ (i : Int) :: r') ∧ (t.anchor = false → r1 = r2) ∧
    ((t.only.isSome && !t.anchor) = true → (r1 = [] ∨ r1 = [((i : Nat) : Int) + ((t.only.getD ⟨#[]⟩).size : Int)]) ∧ (t.nothing = false → (r1 ≠ [] ↔ Lib.occAt x.text.data.toList (t.only.getD ⟨#[]⟩).data.toList i = true))) := by
  have hf := (T.check_none hck).1
  have hk : t.anchor = false → t.kb.testBit 3 = false ∧ t.kb.testBit 4 = false := fun h => by
    unfold T.anchor at h
    simpa using h
  refine ⟨fun h0 => ends_none h1 hl (T.nothing_R x t hf h0 i), fun hn r' e => ?_, fun ha => ?_, fun h => ?_⟩
  · have hR := (h1.mem hl i).1 (by rw [e]; simp)
    have := (T.first_piece hm hck hR).1 rfl
    rw [hn] at this
    cases this
  · obtain ⟨k3, k4⟩ := hk ha
    exact h1.eq h2 (fun j => ⟨T.R_text htx t k3 k4 i j, T.R_text htx.symm t k3 k4 i j⟩)
  · simp only [Bool.and_eq_true, Bool.not_eq_true'] at h
    obtain ⟨ho, ha⟩ := h
    obtain ⟨k3, k4⟩ := hk ha
    obtain ⟨one, hone⟩ := Option.isSome_iff_exists.1 ho
    rw [hone, Option.getD_some]
    have hol : one.data.toList.length = one.size := Array.length_toList
    have all : ∀ j, t.R x i j → j = i + one.size ∧ StandsAt x i one.data.toList := fun j hR => by
      have hp := T.only_piece x t one i j hf hone hR
      obtain ⟨f1, f2⟩ := T.R_fwd x t i j hR
      have f3 := f2 hi
      have hpl := congrArg List.length hp
      rw [pc_len (by rw [x.bytes_len]; exact f3), hol] at hpl
      have e : j = i + one.size := by omega
      refine ⟨e, by omega, ?_⟩
      rw [hol, ← e]
      exact hp
    refine ⟨?_, fun hno => ⟨fun hne => ?_, fun hoc => ?_⟩⟩
    · cases r1 with
      | nil => exact .inl rfl
      | cons q r =>
        right
        have hs := h1.sorted23
        have hq : ∀ z ∈ q :: r, z = (i : Int) + (one.size : Int) := fun z hz => by
          obtain ⟨j, rfl, _⟩ := h1.nat hz
          have := (all j ((h1.mem hl j).1 hz)).1
          omega
        have e1 := hq q (by simp)
        cases r with
        | nil => rw [e1]
        | cons z r =>
          have e2 := hq z (by simp)
          have := (List.pairwise_cons.1 hs).1 z (by simp)
          omega
    · cases r1 with
      | nil => exact absurd rfl hne
      | cons q r =>
        obtain ⟨j, hj, _⟩ := h1.nat (x := q) (by simp)
        have := (all j ((h1.mem hl j).1 (by rw [← hj]; simp))).2
        exact (stands_iff hi).2 this
    · have hst := (stands_iff hi).1 hoc
      have hR := T.only_takes x t hf k3 k4 hno one i hone hst
      have := (h1.mem hl _).2 hR
      intro e
      rw [e] at this
      cases this
end Go.Proofs.YtbbhobojghmkpaaDoor

/-! ## MeansLaw23 -/
namespace Go.Proofs.YtbbhobojghmkpaaDoor
open Go.RowKit

theorem tagsOf_bitsM : ∀ a b c d e f : Bool, bits .and .i64 ((tagsOf a b c d e f : Nat) : Int) 1 = (if a then 1 else 0) ∧ bits .and .i64 ((tagsOf a b c d e f : Nat) : Int) 2 = (if b then 2 else 0) ∧ bits .and .i64 ((tagsOf a b c d e f : Nat) : Int) 8 = (if d then 8 else 0) ∧ bits .and .i64 ((tagsOf a b c d e f : Nat) : Int) 16 = (if e then 16 else 0) := by decide +kernel
theorem ne_of_ifM {x n : Int} {b : Bool} (h : x = if b then n else 0) (hn : n ≠ 0) : (x != 0) = b ∧ (x == 0) = !b := by
  subst h
  cases b <;> simp [hn]
/-- What the walk keeps: the tree's box, the two views' boxes. -/
structure PV3 (w : World) (cs vs us : Array Value) (y : World) : Prop where
  below : Below w.heap.size w y
  box : Blk y w.heap.size 27 cs
  view : Blk y (w.heap.size + 1) 52 vs
  view2 : Blk y (w.heap.size + 1 + 1) 52 us
theorem PV3.next {w y y' : World} {cs vs us : Array Value} (h : PV3 w cs vs us y) (hb : Below y.heap.size y y') : PV3 w cs vs us y' := ⟨h.below.trans (hb.mono h.below.size), h.box.next hb, h.view.next hb, h.view2.next hb⟩
theorem three_of_fiveM {w : World} {a : Nat → Addr} (h : Env w a) : Sent [0, 1, 2] w a := h.sent.mono (fun g hg => by
  simp only [five, List.mem_cons, List.not_mem_nil, or_false] at hg ⊢
  omega)
set_option maxRecDepth 100000 in
set_option maxHeartbeats 8000000 in
theorem meansLaw23_true (t : T) (A : Option Addr) (c : Nat) (s : ByteArray) (cf ef : Int) (s2 : ByteArray) (cf2 ef2 : Int) (w : World) (a : Nat → Addr) (hwf : t.wf) (hin : T.In w (· < w.heap.size) t A) (hs : s.size ≤ 140737488355328) (hcf : IsI64 cf) (hef : IsI64 ef) (hs2 : s2.size ≤ 140737488355328) (hcf2 : IsI64 cf2) (hef2 : IsI64 ef2) (hE : Env w a) :
    Calls Tryd.prog 10 #[.agg (t.hd.cells (.slice A t.subs.length c)).toArray, .agg [.string s, .int .i64 cf, .int .i64 ef].toArray, .agg [.string s2, .int .i64 cf2, .int .i64 ef2].toArray] w fun e w' => e = .returned (.bool true) ∧ Below w.heap.size w w' := by
  have hne := fun y ad => run_neq_iface_nil (P := Tryd.prog) (w := y) 49 (by kernel_rfl) 169 (.pointer (some ad))
  have hnn := fun y => run_neq_nil_nil_at (P := Tryd.prog) (w := y) 49 (by kernel_rfl)
  have HI := hide (fun x (hx : Below w.heap.size w x) => (hin.same (same_of_below hx) (fun y hy => Nat.lt_of_lt_of_le hy hx.size) : T.In x (· < x.heap.size) t A))
  have HLv := hide (fun y (hy : Below w.heap.size w y) => lives23_any y a (hE.below hy).tab (three_of_fiveM (hE.below hy)))
  have HFe := hide (fun (x : World) (hx : Below w.heap.size w x) => few_any t A c 2000 x hwf (by decide) (by decide) (HI.out x hx))
  have HSz := hide (fun (x : World) (hx : Below w.heap.size w x) => refSizeAll_gen t A c x (.inr hwf) (HI.out x hx))
  have HCk := hide (fun (hN : t.nodes ≤ 2000) (x : World) (hx : Below w.heap.size w x) => check_any t A c x a (Nat.le_trans hN (by decide)) (HI.out x hx) (three_of_fiveM (hE.below hx)))
  have HTg := hide (fun (hN : t.nodes ≤ 2000) (x : World) (hx : Below w.heap.size w x) => tags_any t A c x a (Nat.le_trans hN (by decide)) hwf (hE.below hx).tab (three_of_fiveM (hE.below hx)) (HI.out x hx))
  have HOn := hide (fun (hN : t.nodes ≤ 2000) (x : World) (hx : Below w.heap.size w x) => Only_any t A c x a (Nat.le_trans hN (by decide)) hwf (hE.below hx).tab (three_of_fiveM (hE.below hx)) (HI.out x hx))
  have HR := hide (fun (hN : t.nodes ≤ 2000) (hck : t.check = none) (x : Sc) (b m : Nat) (i : Nat) (hi : i ≤ x.len) (hl : x.len ≤ 20) (y : World) (hy : Below w.heap.size w y) (hsc : Scn y b m x) => ends_fine t A c (i : Int) a (Nat.le_trans hN (by decide)) hwf (by unfold IsI64; omega) (by omega) (by omega) (by omega) hck y (HI.out y hy) hsc (hE.below hy))
  have HN := hide (fun (h : decide (0 ≤ t.left 2000) = true) => (by have := few_nodes (t := t) (m := 2000) (by decide) h; omega : t.nodes ≤ 2000))
  have HTE := hide (fun (h : t.check = none) => (by unfold T.tags; rw [h] : t.tags = tagsOf t.nothing t.mayNull (t.kb.testBit 7) t.anchor (t.only.isSome && !t.anchor) (!t.req.toList.isEmpty)))
  have HMF := hide (fun (hck : t.check = none) (x y : Sc) (hm : ∀ i, x.mark i < 4) (htx : x.text = s) (hty : y.text = s) (i : Nat) (hi : i ≤ s.size) (hs20 : s.size ≤ 20) (r1 r2 : List Int) (h1 : EndsOf (t.R x) x.len i r1) (h2 : EndsOf (t.R y) y.len i r2) => (by
    have hxl : x.len = s.size := by rw [← htx]; rfl
    have h := means_facts hm hck (htx.trans hty.symm) (by omega) (by omega) h1 h2
    rw [htx] at h
    exact h : (t.nothing = true → r1 = []) ∧ (t.mayNull = false → ∀ r', r1 ≠ (i : Int) :: r') ∧ (t.anchor = false → r1 = r2) ∧
    ((t.only.isSome && !t.anchor) = true → (r1 = [] ∨ r1 = [((i : Nat) : Int) + ((t.only.getD ⟨#[]⟩).size : Int)]) ∧ (t.nothing = false → (r1 ≠ [] ↔ Lib.occAt s.data.toList (t.only.getD ⟨#[]⟩).data.toList i = true)))))
  have HOS := hide (fun (hck : t.check = none) => (by
    cases ho : t.only with
    | none => exact (by decide : (⟨#[]⟩ : ByteArray).size ≤ 64)
    | some u => exact T.only_size t (T.form_of_check0 hck) u ho : (t.only.getD ⟨#[]⟩).size ≤ 64))
  clear hin hE hwf
  generalize t.tags = tg at *
  generalize t.fullSize = sz at *
  simp only [Hd.cells] at HFe HSz HCk HTg HOn HR ⊢
  have hbel := (((Below.refl w.heap.size w).alloc (Nat.le_refl _) (.cells #[.int .i64 t.hd.kind, .int .u64 t.hd.s0, .int .u64 t.hd.s1, .int .u64 t.hd.s2, .int .u64 t.hd.s3, .slice A t.subs.length c, .int .i64 t.hd.num, .int .i64 t.hd.min, .int .i64 t.hd.max, .bool t.hd.bare] 27)).alloc (by simp) (.cells #[.string s, .int .i64 cf, .int .i64 ef] 52)).alloc (by simp; omega) (.cells #[.string s2, .int .i64 cf2, .int .i64 ef2] 52)
  have hbt := ((Blk.new w 27 #[.int .i64 t.hd.kind, .int .u64 t.hd.s0, .int .u64 t.hd.s1, .int .u64 t.hd.s2, .int .u64 t.hd.s3, .slice A t.subs.length c, .int .i64 t.hd.num, .int .i64 t.hd.min, .int .i64 t.hd.max, .bool t.hd.bare]).alloc (.cells #[.string s, .int .i64 cf, .int .i64 ef] 52)).alloc (.cells #[.string s2, .int .i64 cf2, .int .i64 ef2] 52)
  have hbv := (Blk.new (w.alloc (.cells #[.int .i64 t.hd.kind, .int .u64 t.hd.s0, .int .u64 t.hd.s1, .int .u64 t.hd.s2, .int .u64 t.hd.s3, .slice A t.subs.length c, .int .i64 t.hd.num, .int .i64 t.hd.min, .int .i64 t.hd.max, .bool t.hd.bare] 27)) 52 #[.string s, .int .i64 cf, .int .i64 ef]).alloc (.cells #[.string s2, .int .i64 cf2, .int .i64 ef2] 52)
  have hbu := Blk.new ((w.alloc (.cells #[.int .i64 t.hd.kind, .int .u64 t.hd.s0, .int .u64 t.hd.s1, .int .u64 t.hd.s2, .int .u64 t.hd.s3, .slice A t.subs.length c, .int .i64 t.hd.num, .int .i64 t.hd.min, .int .i64 t.hd.max, .bool t.hd.bare] 27)).alloc (.cells #[.string s, .int .i64 cf, .int .i64 ef] 52)) 52 #[.string s2, .int .i64 cf2, .int .i64 ef2]
  rw [World.size_alloc] at hbv
  rw [World.size_alloc, World.size_alloc] at hbu
  have H0 := hide (PV3.mk hbel hbt hbv hbu)
  clear hbel hbt hbv hbu
  go_enter Tryd.func10, Tryd.ntmps10
  go_wp2_with fail
  generalize (((w.alloc (.cells #[.int .i64 t.hd.kind, .int .u64 t.hd.s0, .int .u64 t.hd.s1, .int .u64 t.hd.s2, .int .u64 t.hd.s3, .slice A t.subs.length c, .int .i64 t.hd.num, .int .i64 t.hd.min, .int .i64 t.hd.max, .bool t.hd.bare] 27)).alloc (.cells #[.string s, .int .i64 cf, .int .i64 ef] 52)).alloc (.cells #[.string s2, .int .i64 cf2, .int .i64 ef2] 52)) = w0 at *
  refine (HLv.out w0 H0.out.below).mono ?_
  rintro e w1 ⟨rfl, hb⟩
  have H1 := hide (H0.out.next hb)
  clear hb HLv H0
  have c1 := H1.out.box.cell
  go_wp2_with fail
  refine (HFe.out w1 H1.out.below).mono ?_
  rintro e w2 ⟨rfl, hb⟩
  have H2 := hide (H1.out.next hb)
  clear hb H1 HFe c1
  have c2 := H2.out.box.cell
  have v2 := H2.out.view.cell
  generalize decide (0 ≤ t.left 2000) = few at *
  cases few with
  | false =>
    go_wp2_with fail
    go_ret
    exact ⟨rfl, H2.out.below⟩
  | true =>
  have hN := HN.out rfl
  clear HN
  go_wp2_with fail
  refine (HSz.out w2 H2.out.below).mono ?_
  rintro e w3 ⟨rfl, hb⟩
  have H3 := hide (H2.out.next hb)
  clear hb H2 HSz c2 v2
  have c3 := H3.out.box.cell
  have v3 := H3.out.view.cell
  cases d1 : decide (150 < sz) with
  | true =>
    go_wp2_with fail
    go_ret
    exact ⟨rfl, H3.out.below⟩
  | false =>
  by_cases h20 : (20 : Int) < (s.size : Int)
  · have g1 : decide ((20 : Int) < (s.size : Int)) = true := decide_eq_true h20
    have g2 : 20 < s.size := by omega
    go_wp2_with fail
    go_ret
    exact ⟨rfl, H3.out.below⟩
  have g1 : decide ((20 : Int) < (s.size : Int)) = false := decide_eq_false h20
  have g2 : ¬ 20 < s.size := by omega
  have hs20 : s.size ≤ 20 := by omega
  go_wp2_with fail
  refine (HCk.out hN w3 H3.out.below).mono ?_
  rintro e w4 ⟨rfl, hb⟩
  have H4 := hide (H3.out.next hb)
  clear hb H3 HCk c3 v3
  have c4 := H4.out.box.cell
  cases hck : t.check with
  | some q =>
    simp only [errOf, errV]
    clear hck HTE HMF HOS HR HTg HOn
    go_wp2_with fail
    go_ret
    exact ⟨rfl, H4.out.below⟩
  | none =>
  simp only [errOf]
  rw [hck] at HOn
  simp only at HOn
  have hte := HTE.out hck
  have HR := hide (HR.out hN hck)
  have HMF := hide (HMF.out hck)
  have hos := HOS.out hck
  clear HTE HOS hck
  have hcl := tagsOf_bitsM t.nothing t.mayNull (t.kb.testBit 7) t.anchor (t.only.isSome && !t.anchor) (!t.req.toList.isEmpty)
  rw [← hte] at hcl
  clear hte
  unfold optV at HOn
  generalize hb4 : (t.only.isSome && !t.anchor) = b4 at *
  generalize hb3 : t.anchor = b3 at *
  have h34 : b3 = true → b4 = false := fun h => by rw [← hb4, h]; simp
  generalize t.nothing = b0 at *
  generalize t.mayNull = b1 at *
  generalize t.only.getD ⟨#[]⟩ = one at *
  generalize t.only.isSome = oi at *
  clear hb4 hb3
  obtain ⟨k1, k2, k8, k16⟩ := hcl
  have HV := hide (And.intro (ne_of_ifM k1 (by decide)) (And.intro (ne_of_ifM k2 (by decide)) (And.intro (ne_of_ifM k8 (by decide)) (ne_of_ifM k16 (by decide)))))
  have HOS := hide hos
  clear k1 k2 k8 k16 hos
  go_wp2_with fail
  refine (HTg.out hN w4 H4.out.below).mono ?_
  rintro e y2 ⟨rfl, hb⟩
  have HK := hide (H4.out.next hb)
  clear hb H4 HTg c4
  go_upto_region 6 with fail
  go_cut [8, 9] (fun xv yv wx => ∃ b m x b' m' y, xv = .pointer (some ⟨b, 0, none⟩) ∧ yv = .pointer (some ⟨b', 0, none⟩) ∧ Scn wx b m x ∧ x.text = s ∧ Scn wx b' m' y ∧ y.text = s ∧ Below y2.heap.size y2 wx)
  case first =>
    refine wp_region_mix (fun z => Below y2.heap.size y2 z) [] (by kernel_rfl) (fun hcl => ?_)
    have hS : Below y2.heap.size y2 y2.drew := (Below.refl _ _).drew
    refine wpAnyT_free (i := 0) hcl rfl (by kernel_rfl) (v := ?_) (fun _ _ _ h => h) hS (Or.inl ⟨rfl, fun w' _ => ?_⟩) (fun hcl => ?_)
    rotate_left
    · go_simp
      with_reducible rfl
    simp only [List.getElem_toArray, List.getElem_cons_zero, List.getElem_cons_succ, Act.put, List.setIfInBounds_toArray, List.set_cons_zero, List.set_cons_succ]
    refine wpAnyT_take (i := 1) hcl rfl (by kernel_rfl) (v := ?_) (fun _ _ _ h => h) hS (Or.inl ⟨rfl, fun w' hS => ?_⟩) (fun hcl => ?_)
    rotate_left
    · skip
      have cv := (HK.out.view.next hS).cell
      go_simp
      with_reducible rfl
    simp only [List.getElem_toArray, List.getElem_cons_zero, List.getElem_cons_succ, Act.put, List.setIfInBounds_toArray, List.set_cons_zero, List.set_cons_succ]
    refine wpAnyT_free (i := 2) hcl rfl (by kernel_rfl) (v := ?_) (fun _ _ _ h => h) hS (Or.inl ⟨rfl, fun w' _ => ?_⟩) (fun hcl => ?_)
    rotate_left
    · go_simp
      with_reducible rfl
    simp only [List.getElem_toArray, List.getElem_cons_zero, List.getElem_cons_succ, Act.put, List.setIfInBounds_toArray, List.set_cons_zero, List.set_cons_succ]
    refine wpAnyT_take (i := 3) hcl rfl (by kernel_rfl) (v := ?_) (fun _ _ _ h => h) hS (Or.inl ⟨rfl, fun w' hS => ?_⟩) (fun hcl => ?_)
    rotate_left
    · skip
      have cv := (HK.out.view.next hS).cell
      go_simp
      with_reducible rfl
    simp only [List.getElem_toArray, List.getElem_cons_zero, List.getElem_cons_succ, Act.put, List.setIfInBounds_toArray, List.set_cons_zero, List.set_cons_succ]
    refine wpAnyT_free (i := 4) hcl rfl (by kernel_rfl) (v := ?_) (fun _ _ _ h => h) hS (Or.inl ⟨rfl, fun w' _ => ?_⟩) (fun hcl => ?_)
    rotate_left
    · go_simp
      with_reducible rfl
    simp only [List.getElem_toArray, List.getElem_cons_zero, List.getElem_cons_succ, Act.put, List.setIfInBounds_toArray, List.set_cons_zero, List.set_cons_succ]
    refine wpAnyT_take (i := 5) hcl rfl (by kernel_rfl) (v := ?_) (fun _ _ _ h => h) hS (Or.inl ⟨rfl, fun w' hS => ?_⟩) (fun hcl => ?_)
    rotate_left
    · skip
      have cv := (HK.out.view.next hS).cell
      go_simp
      with_reducible rfl
    simp only [List.getElem_toArray, List.getElem_cons_zero, List.getElem_cons_succ, Act.put, List.setIfInBounds_toArray, List.set_cons_zero, List.set_cons_succ]
    refine wpAnyT_free (i := 7) hcl rfl (by kernel_rfl) (v := ?_) (fun _ _ _ h => h) hS (Or.inl ⟨rfl, fun w' _ => ?_⟩) (fun hcl => ?_)
    rotate_left
    · go_simp
      with_reducible rfl
    simp only [List.getElem_toArray, List.getElem_cons_zero, List.getElem_cons_succ, Act.put, List.setIfInBounds_toArray, List.set_cons_zero, List.set_cons_succ]
    refine wpAnyT_take (i := 8) hcl rfl (by kernel_rfl) (v := ?_) (fun _ _ _ h => h) hS (Or.inl ⟨rfl, fun w' hS => ?_⟩) (fun hcl => ?_)
    rotate_left
    · skip
      have cv := (HK.out.view.next hS).cell
      go_simp
      with_reducible rfl
    simp only [List.getElem_toArray, List.getElem_cons_zero, List.getElem_cons_succ, Act.put, List.setIfInBounds_toArray, List.set_cons_zero, List.set_cons_succ]
    refine wpAnyT_free (i := 9) hcl rfl (by kernel_rfl) (v := ?_) (fun _ _ _ h => h) hS (Or.inl ⟨rfl, fun w' _ => ?_⟩) (fun hcl => ?_)
    rotate_left
    · go_simp
      with_reducible rfl
    simp only [List.getElem_toArray, List.getElem_cons_zero, List.getElem_cons_succ, Act.put, List.setIfInBounds_toArray, List.set_cons_zero, List.set_cons_succ]
    refine wpAnyT_take (i := 10) hcl rfl (by kernel_rfl) (v := ?_) (fun _ _ _ h => h) hS (Or.inl ⟨rfl, fun w' hS => ?_⟩) (fun hcl => ?_)
    rotate_left
    · skip
      have cv := (HK.out.view2.next hS).cell
      go_simp
      with_reducible rfl
    simp only [List.getElem_toArray, List.getElem_cons_zero, List.getElem_cons_succ, Act.put, List.setIfInBounds_toArray, List.set_cons_zero, List.set_cons_succ]
    refine wpAnyT_free (i := 11) hcl rfl (by kernel_rfl) (v := ?_) (fun _ _ _ h => h) hS (Or.inl ⟨rfl, fun w' _ => ?_⟩) (fun hcl => ?_)
    rotate_left
    · go_simp
      with_reducible rfl
    simp only [List.getElem_toArray, List.getElem_cons_zero, List.getElem_cons_succ, Act.put, List.setIfInBounds_toArray, List.set_cons_zero, List.set_cons_succ]
    refine wpAnyT_take (i := 12) hcl rfl (by kernel_rfl) (v := ?_) (fun _ _ _ h => h) hS (Or.inl ⟨rfl, fun w' hS => ?_⟩) (fun hcl => ?_)
    rotate_left
    · skip
      have cv := (HK.out.view2.next hS).cell
      go_simp
      with_reducible rfl
    simp only [List.getElem_toArray, List.getElem_cons_zero, List.getElem_cons_succ, Act.put, List.setIfInBounds_toArray, List.set_cons_zero, List.set_cons_succ]
    have HS0 := hide hS
    clear hS
    refine wpAnyT_step (i := 6) hcl rfl (by kernel_rfl) (fun hcl => ?_)
    simp only [List.getElem_toArray, List.getElem_cons_zero, List.getElem_cons_succ, Act.put, List.setIfInBounds_toArray, List.set_cons_zero, List.set_cons_succ]
    go_wp2_with fail
    refine (new_any s cf ef _ hs).mono ?_
    rintro e z0 ⟨b, m, x, rfl, hsc, htx, _, _, _, hb⟩
    have HS1 := hide (HS0.out.trans (hb.mono HS0.out.size))
    have HNx := hide (And.intro hsc htx)
    clear hsc htx hb
    go_wp2_with fail
    refine ⟨HS1.out, ?_⟩
    refine wpAnyT_step (i := 13) hcl rfl (by kernel_rfl) (fun hcl => ?_)
    simp only [List.getElem_toArray, List.getElem_cons_zero, List.getElem_cons_succ, Act.put, List.setIfInBounds_toArray, List.set_cons_zero, List.set_cons_succ]
    go_wp2_with fail
    refine (new_any s cf2 ef2 _ hs).mono ?_
    rintro e z1 ⟨b', m', y, rfl, hsc, htx, _, _, _, hb⟩
    have HS2 := hide (HS1.out.trans (hb.mono HS1.out.size))
    have HNy := hide (And.intro hsc htx)
    replace HNx := hide (And.intro (HNx.out.1.below hb) HNx.out.2)
    clear hsc htx hb
    go_wp2_with fail
    refine ⟨HS2.out, ?_⟩
    have hS := HS2.out
    refine wpAnyT_free (i := 14) hcl rfl (by kernel_rfl) (v := ?_) (fun _ _ _ h => h) hS (Or.inl ⟨rfl, fun w' _ => ?_⟩) (fun hcl => ?_)
    rotate_left
    · go_simp
      with_reducible rfl
    simp only [List.getElem_toArray, List.getElem_cons_zero, List.getElem_cons_succ, Act.put, List.setIfInBounds_toArray, List.set_cons_zero, List.set_cons_succ]
    refine wpAnyT_free (i := 15) hcl rfl (by kernel_rfl) (v := ?_) (fun _ _ _ h => h) hS (Or.inl ⟨rfl, fun w' _ => ?_⟩) (fun hcl => ?_)
    rotate_left
    · go_simp
      with_reducible rfl
    simp only [List.getElem_toArray, List.getElem_cons_zero, List.getElem_cons_succ, Act.put, List.setIfInBounds_toArray, List.set_cons_zero, List.set_cons_succ]
    clear hS
    refine wpAnyT_done (by kernel_rfl) ?_ _
    go_wp2_with fail
    go_meet
    case rel => exact ⟨_, _, _, _, _, _, rfl, rfl, HNx.out.1, HNx.out.2, HNy.out.1, HNy.out.2, HS2.out⟩
  case rest =>
  obtain ⟨b, m, x, b', m', y, hv8, hv9, hsc, htx, hsc', hty, hb⟩ := hcut
  subst hv8
  subst hv9
  have HX := hide (And.intro htx hty)
  have HSM := hide (And.intro hsc.small hsc'.small)
  have H5 := hide (And.intro (HK.out.next hb) (And.intro hsc hsc'))
  clear hb hsc hsc' htx hty HK
  have c5 := H5.out.1.box.cell
  go_wp2_with fail
  refine (HOn.out hN _ H5.out.1.below).mono ?_
  rintro e w6 ⟨rfl, hb⟩
  have H6 := hide (And.intro (H5.out.1.next hb) (And.intro (H5.out.2.1.below hb) (H5.out.2.2.below hb)))
  clear hb HOn c5 H5
  go_wp2_with fail
  go_loopw [12] (fun iv wr => ∃ i : Nat, iv = .int .i64 (i : Int) ∧ i ≤ s.size + 1 ∧ PV3 w #[.int .i64 t.hd.kind, .int .u64 t.hd.s0, .int .u64 t.hd.s1, .int .u64 t.hd.s2, .int .u64 t.hd.s3, .slice A t.subs.length c, .int .i64 t.hd.num, .int .i64 t.hd.min, .int .i64 t.hd.max, .bool t.hd.bare] #[.string s, .int .i64 cf, .int .i64 ef] #[.string s2, .int .i64 cf2, .int .i64 ef2] wr ∧ Scn wr b m x ∧ Scn wr b' m' y) (fun iv _ => s.size + 1 - (intOf iv).toNat)
  case atStart => exact ⟨0, rfl, by omega, H6.out.1, H6.out.2.1, H6.out.2.2⟩
  case round =>
    obtain ⟨i, rfl, hi, hpv, hx, hy⟩ := hrel
    have HH := hide (And.intro hpv (And.intro hx hy))
    clear hpv hx hy H6
    have cv := HH.out.1.view.cell
    by_cases hlt : i ≤ s.size
    case neg =>
      have g5 : decide ((i : Int) ≤ (s.size : Int)) = false := decide_eq_false (by omega)
      have g6 : ¬ (i : Int) ≤ (s.size : Int) := by omega
      go_wp2_with fail
      go_ret
      exact ⟨rfl, HH.out.1.below⟩
    have g5 : decide ((i : Int) ≤ (s.size : Int)) = true := decide_eq_true (by omega)
    have g6 : (i : Int) ≤ (s.size : Int) := by omega
    have hxl : x.len = s.size := by rw [← HX.out.1]; rfl
    have hyl : y.len = s.size := by rw [← HX.out.2]; rfl
    have cr := HH.out.1.box.cell
    go_wp2_with fail
    refine (HR.out x b m i (by omega) (by omega) wr HH.out.1.below HH.out.2.1).mono ?_
    rintro e w7 ⟨v1, r1, rfl, hown1, he1, hb⟩
    have H7 := hide (And.intro (HH.out.1.next hb) (And.intro (HH.out.2.1.below hb) (And.intro (HH.out.2.2.below hb) hown1)))
    have HE1 := hide he1
    clear hb hown1 he1 HH cr cv
    have c7 := H7.out.1.box.cell
    go_wp2_with fail
    refine (HR.out y b' m' i (by omega) (by omega) w7 H7.out.1.below H7.out.2.2.1).mono ?_
    rintro e w8 ⟨v2, r2, rfl, hown2, he2, hb⟩
    have hmf := HMF.out x y HSM.out.1 HX.out.1 HX.out.2 i hlt hs20 r1 r2 (by have h := HE1.out; rw [Int.toNat_natCast] at h; exact h) (by rw [Int.toNat_natCast] at he2; exact he2)
    have H8 := hide (And.intro (H7.out.1.next hb) (And.intro (H7.out.2.1.below hb) (H7.out.2.2.1.below hb)))
    have HO := hide (And.intro (H7.out.2.2.2.below hb (Nat.le_refl _)) hown2)
    clear hb hown2 he2 HE1 H7 c7
    obtain ⟨m0, m1, m3, m4⟩ := hmf
    obtain ⟨⟨v1', u1⟩, ⟨v2', u2⟩, ⟨v8, u8⟩, ⟨v16, u16⟩⟩ := HV.out
    obtain ⟨LA, lc, rfl, _, hcell⟩ := HO.out.1.form
    cases r1 with
    | nil =>
      clear m0 m1 hcell
      cases b3 with
      | true =>
        obtain rfl := h34 rfl
        clear m3 m4 h34 HV
        simp only [List.length_nil]
        cases b0 <;> cases b1 <;> (
              go_wp2_with fail
              go_roundw
              case rel => exact ⟨i + 1, by go_num, by omega, H8.out.1, H8.out.2.1, H8.out.2.2⟩
              case measure => simp [intOf]; omega)
      | false =>
        obtain rfl := m3 rfl
        clear m3 h34 HV
        have HM4 := hide m4
        clear m4
        simp only [List.length_nil]
        cases b4 with
        | false =>
          cases b0 <;> cases b1 <;> (
            go_wp2_with fail
            refine (sameInts_any w8 HO.out.1 HO.out.2).mono ?_
            rw [decide_eq_true (rfl : _ = _)]
            rintro e w9 ⟨rfl, hb⟩
            have H9 := hide (And.intro (H8.out.1.next hb) (And.intro (H8.out.2.1.below hb) (H8.out.2.2.below hb)))
            try replace hce := (hb.cell (World.block_lt_of_cell? _ _ hce)).trans hce
            clear hb H8 HO
            go_wp2_with fail
            go_roundw
            case rel => exact ⟨i + 1, by go_num, by omega, H9.out.1, H9.out.2.1, H9.out.2.2⟩
            case measure => simp [intOf]; omega)
        | true =>
          cases b0 with
          | true =>
            cases b1 <;> (
              go_wp2_with fail
              refine (sameInts_any w8 HO.out.1 HO.out.2).mono ?_
              rw [decide_eq_true (rfl : _ = _)]
              rintro e w9 ⟨rfl, hb⟩
              have H9 := hide (And.intro (H8.out.1.next hb) (And.intro (H8.out.2.1.below hb) (H8.out.2.2.below hb)))
              try replace hce := (hb.cell (World.block_lt_of_cell? _ _ hce)).trans hce
              clear hb H8 HO
              have cv := H9.out.1.view.cell
              go_wp2_with fail
              refine (seekIndex_any s one i w9 (by have := HOS.out; omega) (by omega) hlt).mono ?_
              rintro e w10 ⟨q2, rfl, hq2, hb⟩
              have H10 := hide (And.intro (H9.out.1.next hb) (And.intro (H9.out.2.1.below hb) (H9.out.2.2.below hb)))
              try replace hce := (hb.cell (World.block_lt_of_cell? _ _ hce)).trans hce
              clear hb H9 cv
              clear hq2
              by_cases hqi : q2 = (i : Int)
              · have z1 : (q2 == (i : Int)) = true := by simp [hqi]
                go_wp2_with fail
                go_roundw
                case rel => exact ⟨i + 1, by go_num, by omega, H10.out.1, H10.out.2.1, H10.out.2.2⟩
                case measure => simp [intOf]; omega
              · have z1 : (q2 == (i : Int)) = false := by simp [hqi]
                go_wp2_with fail
                go_roundw
                case rel => exact ⟨i + 1, by go_num, by omega, H10.out.1, H10.out.2.1, H10.out.2.2⟩
                case measure => simp [intOf]; omega)
          | false =>
            have hno : ¬ Lib.occAt s.data.toList one.data.toList i = true := fun h => ((HM4.out rfl).2 rfl).2 h rfl
            have HNO := hide hno
            clear hno HM4
            cases b1 <;> (
              go_wp2_with fail
              refine (sameInts_any w8 HO.out.1 HO.out.2).mono ?_
              rw [decide_eq_true (rfl : _ = _)]
              rintro e w9 ⟨rfl, hb⟩
              have H9 := hide (And.intro (H8.out.1.next hb) (And.intro (H8.out.2.1.below hb) (H8.out.2.2.below hb)))
              try replace hce := (hb.cell (World.block_lt_of_cell? _ _ hce)).trans hce
              clear hb H8 HO
              have cv := H9.out.1.view.cell
              go_wp2_with fail
              refine (seekIndex_any s one i w9 (by have := HOS.out; omega) (by omega) hlt).mono ?_
              rintro e w10 ⟨q2, rfl, hq2, hb⟩
              have H10 := hide (And.intro (H9.out.1.next hb) (And.intro (H9.out.2.1.below hb) (H9.out.2.2.below hb)))
              try replace hce := (hb.cell (World.block_lt_of_cell? _ _ hce)).trans hce
              clear hb H9 cv
              have hqi : ¬ q2 = (i : Int) := fun h => by
                have h2 := hq2.1 h
                have h1 := HNO.out
                rw [h2] at h1
                simp at h1
              clear hq2
              have z1 : (q2 == (i : Int)) = false := by simp [hqi]
              go_wp2_with fail
              go_roundw
              case rel => exact ⟨i + 1, by go_num, by omega, H10.out.1, H10.out.2.1, H10.out.2.2⟩
              case measure => simp [intOf]; omega)
    | cons q r =>
      have hb0 : b0 = false := by
        cases b0 with
        | false => rfl
        | true => have := m0 rfl; cases this
      subst hb0
      clear m0
      obtain ⟨g, rfl, _, hgl, hce⟩ := hcell 0 q rfl
      clear hcell
      have HM1 := hide m1
      clear m1
      have l1 : ((r.length + 1 : Nat) : Int) = (r.length : Int) + 1 := by omega
      have l2 : (0 : Int) < (r.length : Int) + 1 := by omega
      have l3 : decide ((0 : Int) < (r.length : Int) + 1) = true := decide_eq_true l2
      have l4 : 0 < r.length + 1 := by omega
      cases b3 with
      | true =>
        obtain rfl := h34 rfl
        clear m3 m4 h34 HV
        simp only [List.length_cons]
        cases b1 with
        | true =>
          go_wp2_with fail
          go_roundw
          case rel => exact ⟨i + 1, by go_num, by omega, H8.out.1, H8.out.2.1, H8.out.2.2⟩
          case measure => simp [intOf]; omega
        | false =>
          have z1 : (q == (i : Int)) = false := by
            rw [beq_eq_false_iff_ne]
            intro h
            exact HM1.out rfl r (by rw [h])
          have z2 : ¬ q = (i : Int) := by simpa using z1
          go_wp2_with fail
          go_roundw
          case rel => exact ⟨i + 1, by go_num, by omega, H8.out.1, H8.out.2.1, H8.out.2.2⟩
          case measure => simp [intOf]; omega
      | false =>
        obtain rfl := m3 rfl
        clear m3 h34 HV
        have HM4 := hide m4
        clear m4
        cases b4 with
        | false =>
          simp only [List.length_cons]
          cases b1 with
          | true =>
            go_wp2_with fail
            refine (sameInts_any w8 HO.out.1 HO.out.2).mono ?_
            rw [decide_eq_true (rfl : _ = _)]
            rintro e w9 ⟨rfl, hb⟩
            have H9 := hide (And.intro (H8.out.1.next hb) (And.intro (H8.out.2.1.below hb) (H8.out.2.2.below hb)))
            try replace hce := (hb.cell (World.block_lt_of_cell? _ _ hce)).trans hce
            clear hb H8 HO
            go_wp2_with fail
            go_roundw
            case rel => exact ⟨i + 1, by go_num, by omega, H9.out.1, H9.out.2.1, H9.out.2.2⟩
            case measure => simp [intOf]; omega
          | false =>
            have z1 : (q == (i : Int)) = false := by
              rw [beq_eq_false_iff_ne]
              intro h
              exact HM1.out rfl r (by rw [h])
            have z2 : ¬ q = (i : Int) := by simpa using z1
            go_wp2_with fail
            refine (sameInts_any w8 HO.out.1 HO.out.2).mono ?_
            rw [decide_eq_true (rfl : _ = _)]
            rintro e w9 ⟨rfl, hb⟩
            have H9 := hide (And.intro (H8.out.1.next hb) (And.intro (H8.out.2.1.below hb) (H8.out.2.2.below hb)))
            try replace hce := (hb.cell (World.block_lt_of_cell? _ _ hce)).trans hce
            clear hb H8 HO
            go_wp2_with fail
            go_roundw
            case rel => exact ⟨i + 1, by go_num, by omega, H9.out.1, H9.out.2.1, H9.out.2.2⟩
            case measure => simp [intOf]; omega
        | true =>
          have hqr : q = (i : Int) + (one.size : Int) ∧ r = [] := by
            rcases (HM4.out rfl).1 with h | h
            · cases h
            · injection h with h1 h2
              exact ⟨h1, h2⟩
          obtain ⟨hq, rfl⟩ := hqr
          have hos := HOS.out
          have hocc := ((HM4.out rfl).2 rfl).1 (by simp)
          have HOC := hide hocc
          clear hocc
          simp only [List.length_cons, List.length_nil, Nat.zero_add] at l1 l2 l3 l4 ⊢
          cases b1 with
          | true =>
            go_wp2_with fail
            refine (sameInts_any w8 HO.out.1 HO.out.2).mono ?_
            rw [decide_eq_true (rfl : _ = _)]
            rintro e w9 ⟨rfl, hb⟩
            have H9 := hide (And.intro (H8.out.1.next hb) (And.intro (H8.out.2.1.below hb) (H8.out.2.2.below hb)))
            try replace hce := (hb.cell (World.block_lt_of_cell? _ _ hce)).trans hce
            clear hb H8 HO
            have cv := H9.out.1.view.cell
            go_wp2_with fail
            refine (seekIndex_any s one i w9 (by have := HOS.out; omega) (by omega) hlt).mono ?_
            rintro e w10 ⟨q2, rfl, hq2, hb⟩
            have H10 := hide (And.intro (H9.out.1.next hb) (And.intro (H9.out.2.1.below hb) (H9.out.2.2.below hb)))
            try replace hce := (hb.cell (World.block_lt_of_cell? _ _ hce)).trans hce
            clear hb H9 cv
            have hqi : q2 = (i : Int) := hq2.2 HOC.out
            subst hqi
            clear hq2
            have z3 : ((i : Int) == (i : Int)) = true := by simp
            have hqq : (q != (i : Int) + (one.size : Int)) = false := by simp [hq]
            go_wp2_with fail
            go_roundw
            case rel => exact ⟨i + 1, by go_num, by omega, H10.out.1, H10.out.2.1, H10.out.2.2⟩
            case measure => simp [intOf]; omega
          | false =>
            have z1 : (q == (i : Int)) = false := by
              rw [beq_eq_false_iff_ne]
              intro h
              exact HM1.out rfl [] (by rw [h])
            have z2 : ¬ q = (i : Int) := by simpa using z1
            go_wp2_with fail
            refine (sameInts_any w8 HO.out.1 HO.out.2).mono ?_
            rw [decide_eq_true (rfl : _ = _)]
            rintro e w9 ⟨rfl, hb⟩
            have H9 := hide (And.intro (H8.out.1.next hb) (And.intro (H8.out.2.1.below hb) (H8.out.2.2.below hb)))
            try replace hce := (hb.cell (World.block_lt_of_cell? _ _ hce)).trans hce
            clear hb H8 HO
            have cv := H9.out.1.view.cell
            go_wp2_with fail
            refine (seekIndex_any s one i w9 (by have := HOS.out; omega) (by omega) hlt).mono ?_
            rintro e w10 ⟨q2, rfl, hq2, hb⟩
            have H10 := hide (And.intro (H9.out.1.next hb) (And.intro (H9.out.2.1.below hb) (H9.out.2.2.below hb)))
            try replace hce := (hb.cell (World.block_lt_of_cell? _ _ hce)).trans hce
            clear hb H9 cv
            have hqi : q2 = (i : Int) := hq2.2 HOC.out
            subst hqi
            clear hq2
            have z3 : ((i : Int) == (i : Int)) = true := by simp
            have hqq : (q != (i : Int) + (one.size : Int)) = false := by simp [hq]
            go_wp2_with fail
            go_roundw
            case rel => exact ⟨i + 1, by go_num, by omega, H10.out.1, H10.out.2.1, H10.out.2.2⟩
            case measure => simp [intOf]; omega
end Go.Proofs.YtbbhobojghmkpaaDoor

/-! ## PlanMeansProof -/
namespace Go.Proofs.YtbbhobojghmkpaaDoor
open Go.ChangeShapes Go.WideShapes Go.ChangeAt Go.RowKit

theorem own : ownKnob Tryd.prog.godebug = none := by kernel_rfl
theorem laidOut : laidOutB Tryd.prog = true := by kernel_rfl
theorem star : ("*" ++ "errors.errorString" : String) = "*errors.errorString" := by decide
theorem rowE (u : TypeId) (h : Tryd.prog.typeName? 3 u = some "*errors.errorString") : u = 169 :=
  typeName_ptr_named (nm := "errors.errorString") (by rw [star]; kernel_rfl) (by kernel_rfl) (by decide) u (by rw [star]; exact h)

theorem agg_of {v : Value} {cs : Array Value} {l : List Value} (h : v = .agg cs) (hl : v.cells.toList = l) : v = .agg l.toArray := by
  subst h
  subst hl
  simp [Value.cells]

theorem env_of_laid {W : World} (h : laidMetH Tryd.prog Rows.planMeansRow.laid W) : ∃ a, Env W a := by
  rw [Go.MakeChecks.laidMetH_plain Tryd.prog Rows.planMeansRow.laid W (by kernel_rfl)] at h
  have ht := tab_of_met h (by simp only [Rows.planMeansRow, Rows.laid_math_bits_deBruijn64tab]; exact List.mem_of_getElem? (i := 0) rfl)
  obtain ⟨a, ha⟩ := sent_of_met (S := five) h rowE (fun g hg => by
    simp only [five, List.mem_cons, List.not_mem_nil, or_false] at hg
    rcases hg with e | e | e | e | e <;> subst e
    · exact ⟨ "trawl/api.ErrTooBig", _, List.mem_of_getElem? (i := 1) rfl, by kernel_rfl, by kernel_rfl⟩
    · exact ⟨ "trawl/api.ErrLong", _, List.mem_of_getElem? (i := 2) rfl, by kernel_rfl, by kernel_rfl⟩
    · exact ⟨ "trawl/api.ErrTree", _, List.mem_of_getElem? (i := 3) rfl, by kernel_rfl, by kernel_rfl⟩
    · exact ⟨ "trawl/api.ErrDeep", _, List.mem_of_getElem? (i := 4) rfl, by kernel_rfl, by kernel_rfl⟩
    · exact ⟨ "trawl/api.ErrArgument", _, List.mem_of_getElem? (i := 5) rfl, by kernel_rfl, by kernel_rfl⟩)
  exact ⟨a, ha, ht⟩

theorem door_met (os : Os) (args : Array Value) : laidMetH Tryd.prog Rows.planMeansRow.laid ((World.doorLaid Tryd.prog 420 os).forCall (fun _ _ => 0) ⟨#[], args, []⟩).memory :=
  laidMetH_of_parts3 (fuel := 8) (laidMet_of_run' 8 (by kernel_rfl) (by kernel_rfl)) (by kernel_rfl) (by kernel_rfl)

set_option maxRecDepth 100000 in
theorem lifted (os : Os) (started : os.Started) (H : Type) (enc : TypeId × Value → H) :
    ReturnsInHanded {} Tryd.checked os 10 .any (fun w args => (Rows.planMeansSpec.pre enc Tryd.prog Tryd.f10 [] false w args ∧ laidMetH Tryd.prog Rows.planMeansRow.laid w) ∧ sizedMet enc Tryd.prog Tryd.f10 (OpenSpec.ofChange Rows.planMeansSpec) false w args)
      (Rows.planMeansSpec.post enc Tryd.prog Tryd.f10 false true false false) := by
  refine returnsInHanded_of_change_and (C := Tryd.checked) (X := fun w _ => laidMetH Tryd.prog Rows.planMeansRow.laid w) (fun _ _ _ hh h => h.of_heap hh) own started (by kernel_rfl) Tryd.func10
    (ChangeSpec.witness_shaped (enc := enc) (C := Tryd.checked) (os := os) (X := fun w _ => laidMetH Tryd.prog Rows.planMeansRow.laid w) false (World.doorLaid Tryd.prog 420 os) #[.agg zeroCells, .agg #[.string ⟨#[]⟩, .int .i64 0, .int .i64 0], .agg #[.string ⟨#[]⟩, .int .i64 0, .int .i64 0]] 8 rfl (World.shaped_of_RefB (by kernel_rfl) (by kernel_rfl)) (by kernel_rfl) (by kernel_rfl) (by kernel_rfl) (door_met os _)) ?_
  intro W base args ds gs before hval0 hW _ hsz0 hL _
  have hval : ∀ (j : Nat) t v, Tryd.f10.params[j]? = some t → args[j]? = some v → Value.okWide Tryd.prog W .any base t v := hval0
  have hW' := hW
  obtain ⟨p, q, hA0, hV, rfl, hfz, hnd⟩ := hW
  have hA : DataW.TrodAll enc Tryd.prog W 0 (fun _ => true) true Tryd.f10.params.toList args.toList ds p := hA0
  have hsz : (DataW.weightsEach Tryd.prog (Tryd.f10.params.toList ++ []) (ds ++ gs)).all (· ≤ reachBytes) = true := hsz0
  rw [Tryd.params10] at hA hval hsz
  obtain ⟨v0, vs0, d0, ds0, p0, q0, e0, rfl, rfl, h0, r0⟩ := trodAll_cons hA
  obtain ⟨v1, vs1, d1, ds1, p1, q1, e1, rfl, rfl, h1, r1⟩ := trodAll_cons r0
  obtain ⟨v2, vs2, d2, ds2, p2, q2, e2, rfl, rfl, h2, r2⟩ := trodAll_cons r1
  obtain ⟨rfl, rfl, rfl⟩ := trodAll_nil r2
  subst e2
  subst e1
  obtain rfl : args = #[v0, v1, v2] := by cases args; simp_all
  obtain ⟨rfl, rfl⟩ := trodVars_none hV
  have k0 := h0
  have lt0 : ∀ x ∈ p0, x.block < W.heap.size := by obtain ⟨m, hm⟩ := k0; exact DataW.trod_lt m _ _ _ hm
  have k1 := h1
  have lt1 : ∀ x ∈ p1, x.block < W.heap.size := by obtain ⟨m, hm⟩ := k1; exact DataW.trod_lt m _ _ _ hm
  have k2 := h2
  have lt2 : ∀ x ∈ p2, x.block < W.heap.size := by obtain ⟨m, hm⟩ := k2; exact DataW.trod_lt m _ _ _ hm
  obtain ⟨t0, A0, c0, e0, hin0, hwf0⟩ : ∃ (t : T) (A : Option Addr) (c : Nat), v0.cells.toList = t.hd.cells (.slice A t.subs.length c) ∧ T.In W (· < W.heap.size) t A ∧ t.wf := by
    obtain ⟨fuel, hf⟩ := h0
    exact trod_node fuel _ _ hf
  obtain ⟨cs0, hv0, _⟩ := okWide_struct Tryd.underlying27 (hval 0 27 v0 rfl rfl)
  have ev0 := agg_of hv0 e0
  clear hv0 e0
  subst ev0
  obtain ⟨s1, cf1, ef1, e1, hs1, hcf1, hef1⟩ : ∃ (s : ByteArray) (cf ef : Int), v1.cells.toList = [.string s, .int .i64 cf, .int .i64 ef] ∧ s.size ≤ 140737488355328 ∧ IsI64 cf ∧ IsI64 ef := by
    obtain ⟨fuel, hf⟩ := h1
    obtain ⟨s, cf, ef, g1, g2, g3, g4⟩ := trod_view fuel _ _ hf
    refine ⟨s, cf, ef, g1, ?_, g3, g4⟩
    have h1 := List.all_eq_true.1 hsz _ (DataW.weights_mem_each (j := 1) (t := 52) rfl rfl _ (view_weight g2))
    have h2 := reachBytes_lt
    simp at h1
    omega
  obtain ⟨cs1, hv1, _⟩ := okWide_struct Tryd.underlying52 (hval 1 52 v1 rfl rfl)
  have ev1 := agg_of hv1 e1
  clear hv1 e1
  subst ev1
  obtain ⟨s2, cf2, ef2, e2, hs2, hcf2, hef2⟩ : ∃ (s : ByteArray) (cf ef : Int), v2.cells.toList = [.string s, .int .i64 cf, .int .i64 ef] ∧ s.size ≤ 140737488355328 ∧ IsI64 cf ∧ IsI64 ef := by
    obtain ⟨fuel, hf⟩ := h2
    obtain ⟨s, cf, ef, g1, g2, g3, g4⟩ := trod_view fuel _ _ hf
    refine ⟨s, cf, ef, g1, ?_, g3, g4⟩
    have h1 := List.all_eq_true.1 hsz _ (DataW.weights_mem_each (j := 2) (t := 52) rfl rfl _ (view_weight g2))
    have h2 := reachBytes_lt
    simp at h1
    omega
  obtain ⟨cs2, hv2, _⟩ := okWide_struct Tryd.underlying52 (hval 2 52 v2 rfl rfl)
  have ev2 := agg_of hv2 e2
  clear hv2 e2
  subst ev2
  obtain ⟨a, ha⟩ := env_of_laid hL
  clear hA0 hval0 hval hA
  refine (meansLaw23_true t0 A0 c0 s1 cf1 ef1 s2 cf2 ef2 W a hwf0 hin0 hs1 hcf1 hef1 hs2 hcf2 hef2 ha).mono fun e W' ⟨he, bel⟩ => ?_
  subst he
  exact ⟨_, rfl, _, _, _, [], _, [], hW', trodAll_mk1 (shut_bool Tryd.underlying4 _), (trodAll_cons_mk (Below.trod laidOut (by kernel_rfl) (of_decide_eq_true (by kernel_rfl)) k0 bel lt0) (trodAll_cons_mk (Below.trod laidOut (by kernel_rfl) (of_decide_eq_true (by kernel_rfl)) k1 bel lt1) (trodAll_cons_mk (Below.trod laidOut (by kernel_rfl) (of_decide_eq_true (by kernel_rfl)) k2 bel lt2) trodAll_mk0))), rfl, bel.frame _, fun h => by cases h⟩

theorem said : Rows.PlanMeansSaid :=
  OpenClaim.holds_of_wide 10 Tryd.f10 rfl rfl rfl rfl rfl rfl rfl ⟨rfl, rfl, rfl, rfl, rfl⟩ rfl rfl rfl rfl rfl (by kernel_rfl) Tryd.func10 (by kernel_rfl)
    (of_decide_eq_true (by kernel_rfl)) (by unfold Func.isWrapper; first | (rw [if_pos (by decide +kernel)]; kernel_rfl) | (rw [if_neg (by decide +kernel)]; exact ⟨rfl, rfl⟩))
    (fun os started H enc _ => lifted os started H enc)

theorem plain (f : FuncId) (fn : Func) (hf : Tryd.pinned.checked.prog.funcNamed "trawl/trawllaw23.PlanMeans" = some f) (hfn : Tryd.pinned.checked.prog.funcs[f]? = some fn) :
    false = Tryd.pinned.checked.prog.looks [] ∧ ∀ (j : Nat) t, fn.params[j]? = some t → Tryd.pinned.checked.prog.wantsStandIn t = false := by
  obtain rfl : f = 10 := Option.some.inj ((show Tryd.prog.funcNamed "trawl/trawllaw23.PlanMeans" = some 10 by kernel_rfl).symm.trans hf) |>.symm
  obtain rfl : fn = Tryd.f10 := (Option.some.inj (Tryd.func10.symm.trans hfn)).symm
  refine ⟨by kernel_rfl, fun j t ht => ?_⟩
  rw [Tryd.params10] at ht
  have hm := Array.mem_of_getElem? ht
  simp only [List.mem_toArray, List.mem_cons, List.not_mem_nil, or_false] at hm
  rcases hm with rfl | rfl | rfl
  · exact (show Tryd.prog.wantsStandIn 27 = false by kernel_rfl)
  · exact (show Tryd.prog.wantsStandIn 52 = false by kernel_rfl)
  · exact (show Tryd.prog.wantsStandIn 52 = false by kernel_rfl)

theorem planMeans_holds : Rows.PlanMeansCardSaid :=
  Claim7.holds_tied_plain_at .later [] _ _ _ _ said (fun _ h => by cases h) (by kernel_rfl) (fun _ h => by cases h) planMeans_row_tie rfl ⟨rfl, rfl⟩ (by kernel_rfl) rfl plain (by kernel_rfl)
#print axioms planMeans_holds
end Go.Proofs.YtbbhobojghmkpaaDoor
