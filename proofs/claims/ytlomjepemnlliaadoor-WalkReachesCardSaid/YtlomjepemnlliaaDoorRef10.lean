/- trawlref10.Scene (bit, begin, end, in, Begin, End, Byte) at the places of a subject that is not turned; trawlref01.Has. -/
import Derived.Test.YtlomjepemnlliaaDoorSceneNew
import Derived.Test.YtlomjepemnlliaaDoorHas
set_option linter.unusedSimpArgs false
set_option linter.unusedVariables false
namespace Go.Proofs.YtlomjepemnlliaaDoor
open Go.RowKit

theorem nat10 (n : Nat) : ((n : Int) == 10) = (n == 10) := by rw [Bool.eq_iff_iff]; simp; omega
theorem bit_ref (a f : Int) (w : World) : Calls Tryd.prog 113 #[.int .i64 a, .int .i64 f] w fun e w' => e = .returned (.bool (!(bits .and .i64 a f == 0))) ∧ w = w' := by
  go_enter Tryd.func113, Tryd.ntmps113
  go_wp2_with fail
  go_ret
  exact ⟨rfl, rfl⟩

def beginB (s : ByteArray) (nb nl : Bool) (i : Nat) : Bool := if i = 0 then nb else nl && (byteAt s (i - 1) == 10)
def endB (s : ByteArray) (ne nl : Bool) (i : Nat) : Bool := if i = s.size then ne else nl && (byteAt s i == 10)

theorem byteAt_lt (s : ByteArray) (i : Nat) : byteAt s i < 256 := UInt8.toNat_lt _
theorem byteAt_get (s : ByteArray) (i : Nat) (h : i < s.size) : byteAt s i = s[i].toNat := by
  have : i < s.data.toList.length := by simpa using h
  simp only [byteAt, List.getD_eq_getElem?_getD, List.getElem?_eq_getElem this]
  rfl

theorem markOf_begin (s : ByteArray) (nb ne nl : Bool) (i : Nat) (hi : i ≤ s.size) : (markOf s nb ne nl s.size i).testBit 0 = beginB s nb nl i := by
  unfold markOf beginB
  by_cases h0 : i = 0
  · subst h0
    have e1 : ((0 = 0 ∧ nb = true) ∨ (0 < 0 ∧ 0 ≤ s.size ∧ nl = true ∧ byteAt s (0 - 1) = 10)) ↔ nb = true := by simp
    simp only [e1, if_true]
    cases nb <;> simp <;> split <;> rfl
  · have e1 : ((i = 0 ∧ nb = true) ∨ (0 < i ∧ i ≤ s.size ∧ nl = true ∧ byteAt s (i - 1) = 10)) ↔ (nl && (byteAt s (i - 1) == 10)) = true := by
      simp only [h0, false_and, false_or, Bool.and_eq_true, beq_iff_eq]
      exact ⟨fun h => ⟨h.2.2.1, h.2.2.2⟩, fun h => ⟨by omega, hi, h.1, h.2⟩⟩
    simp only [e1, if_neg h0]
    cases (nl && (byteAt s (i - 1) == 10)) <;> simp <;> split <;> rfl
theorem markOf_end (s : ByteArray) (nb ne nl : Bool) (i : Nat) (hi : i ≤ s.size) : (markOf s nb ne nl s.size i).testBit 1 = endB s ne nl i := by
  unfold markOf endB
  by_cases h0 : i = s.size
  · have e1 : ((i = s.size ∧ ne = true) ∨ (i < s.size ∧ nl = true ∧ byteAt s i = 10)) ↔ ne = true := by
      constructor
      · rintro (h | h)
        · exact h.2
        · omega
      · intro h; exact .inl ⟨h0, h⟩
    simp only [e1, if_pos h0]
    cases ne <;> simp <;> split <;> rfl
  · have e1 : ((i = s.size ∧ ne = true) ∨ (i < s.size ∧ nl = true ∧ byteAt s i = 10)) ↔ (nl && (byteAt s i == 10)) = true := by
      simp only [h0, false_and, false_or, Bool.and_eq_true, beq_iff_eq]
      exact ⟨fun h => ⟨h.2.1, h.2.2⟩, fun h => ⟨by omega, h.1, h.2⟩⟩
    simp only [e1, if_neg h0]
    cases (nl && (byteAt s i == 10)) <;> simp <;> split <;> rfl


set_option maxHeartbeats 1000000 in
theorem begin_ref (s : ByteArray) (cf ef : Int) (i : Nat) (hi : i ≤ s.size) (hs : s.size ≤ 140737488355328) (w : World) : Calls Tryd.prog 112 #[.agg #[.string s, .int .i64 cf, .int .i64 ef, .bool false], .int .i64 i] w fun e w' =>
    e = .returned (.bool (beginB s (bits .and .i64 ef 1 == 0) (!(bits .and .i64 cf 4 == 0)) i)) ∧ Below w.heap.size w w' := by
  have HB1 := hide (fun y => bit_ref ef 1 y)
  have HB4 := hide (fun y => bit_ref cf 4 y)
  generalize (bits .and .i64 ef 1 == 0) = nb at *
  generalize (bits .and .i64 cf 4 == 0) = nl at *
  unfold beginB
  have HF := hide ((Below.refl w.heap.size w).alloc (Nat.le_refl _) (.cells #[.string s, .int .i64 cf, .int .i64 ef, .bool false] 34))
  by_cases h0 : i = 0
  · subst h0
    rw [if_pos rfl]
    go_enter Tryd.func112, Tryd.ntmps112
    go_wp2_with fail
    refine (HB1.out _).mono ?_
    rintro e w1 ⟨rfl, rfl⟩
    go_wp2_with fail
    go_ret
    exact ⟨by simp, HF.out⟩
  · rw [if_neg h0]
    have g0 : ((i : Int) == 0) = false := by simp [h0]
    have g1 : decide ((0 : Int) < (i : Int)) = true := decide_eq_true (by omega)
    have g2 : decide ((i : Int) ≤ (s.size : Int)) = true := decide_eq_true (by omega)
    have hp : 0 < i := by omega
    have hcast : (i : Int) - 1 = ((i - 1 : Nat) : Int) := by omega
    have hlt : i - 1 < s.size := by omega
    have hby := byteAt_get s (i - 1) hlt
    have h256 := byteAt_lt s (i - 1)
    cases nl with
    | true =>
      go_enter Tryd.func112, Tryd.ntmps112
      go_wp2_with fail
      refine (HB4.out _).mono ?_
      rintro e w1 ⟨rfl, rfl⟩
      go_wp2_with fail
      go_ret
      exact ⟨by simp, HF.out⟩
    | false =>
      go_enter Tryd.func112, Tryd.ntmps112
      go_wp2_with fail
      refine (HB4.out _).mono ?_
      rintro e w1 ⟨rfl, rfl⟩
      go_wp2_with fail
      go_ret
      exact ⟨by rw [hby]; simp [nat10], HF.out⟩

set_option maxHeartbeats 1000000 in
theorem end_ref (s : ByteArray) (cf ef : Int) (i : Nat) (hi : i ≤ s.size) (hs : s.size ≤ 140737488355328) (w : World) : Calls Tryd.prog 110 #[.agg #[.string s, .int .i64 cf, .int .i64 ef, .bool false], .int .i64 i] w fun e w' =>
    e = .returned (.bool (endB s (bits .and .i64 ef 2 == 0) (!(bits .and .i64 cf 4 == 0)) i)) ∧ Below w.heap.size w w' := by
  have HB1 := hide (fun y => bit_ref ef 2 y)
  have HB4 := hide (fun y => bit_ref cf 4 y)
  generalize (bits .and .i64 ef 2 == 0) = nb at *
  generalize (bits .and .i64 cf 4 == 0) = nl at *
  unfold endB
  have HF := hide ((Below.refl w.heap.size w).alloc (Nat.le_refl _) (.cells #[.string s, .int .i64 cf, .int .i64 ef, .bool false] 34))
  by_cases h0 : i = s.size
  · subst h0
    rw [if_pos rfl]
    go_enter Tryd.func110, Tryd.ntmps110
    go_wp2_with fail
    refine (HB1.out _).mono ?_
    rintro e w1 ⟨rfl, rfl⟩
    go_wp2_with fail
    go_ret
    exact ⟨by simp, HF.out⟩
  · rw [if_neg h0]
    have g0 : ((i : Int) == (s.size : Int)) = false := by simp; omega
    have g2 : decide ((i : Int) < (s.size : Int)) = true := decide_eq_true (by omega)
    have hlt : i < s.size := by omega
    have hby := byteAt_get s i hlt
    have h256 := byteAt_lt s i
    cases nl with
    | true =>
      go_enter Tryd.func110, Tryd.ntmps110
      go_wp2_with fail
      refine (HB4.out _).mono ?_
      rintro e w1 ⟨rfl, rfl⟩
      go_wp2_with fail
      go_ret
      exact ⟨by simp, HF.out⟩
    | false =>
      go_enter Tryd.func110, Tryd.ntmps110
      go_wp2_with fail
      refine (HB4.out _).mono ?_
      rintro e w1 ⟨rfl, rfl⟩
      go_wp2_with fail
      go_ret
      exact ⟨by rw [hby]; simp [nat10], HF.out⟩

theorem in_ref (s : ByteArray) (cf ef : Int) (i : Nat) (hi : i ≤ s.size) (hs : s.size ≤ 140737488355328) (w : World) : Calls Tryd.prog 109 #[.agg #[.string s, .int .i64 cf, .int .i64 ef, .bool false], .int .i64 i] w fun e w' =>
    e = .returned (.bool true) ∧ Below w.heap.size w w' := by
  have HF := hide ((Below.refl w.heap.size w).alloc (Nat.le_refl _) (.cells #[.string s, .int .i64 cf, .int .i64 ef, .bool false] 34))
  have g2 : decide ((i : Int) ≤ (s.size : Int)) = true := decide_eq_true (by omega)
  go_enter Tryd.func109, Tryd.ntmps109
  go_wp2_with fail
  go_ret
  exact ⟨rfl, HF.out⟩

set_option maxHeartbeats 1000000 in
theorem Begin_ref (s : ByteArray) (cf ef : Int) (i : Nat) (hi : i ≤ s.size) (hs : s.size ≤ 140737488355328) (w : World) : Calls Tryd.prog 103 #[.agg #[.string s, .int .i64 cf, .int .i64 ef, .bool false], .int .i64 i] w fun e w' =>
    e = .returned (.bool (beginB s (bits .and .i64 ef 1 == 0) (!(bits .and .i64 cf 4 == 0)) i)) ∧ Below w.heap.size w w' := by
  have HI := hide (fun y => in_ref s cf ef i hi hs y)
  have HB := hide (fun y => begin_ref s cf ef i hi hs y)
  generalize beginB s (bits .and .i64 ef 1 == 0) (!(bits .and .i64 cf 4 == 0)) i = r at *
  have hF := ((Below.refl w.heap.size w).alloc (Nat.le_refl _) (.cells #[.string s, .int .i64 cf, .int .i64 ef, .bool false] 34))
  have hk := Blk.new w 34 #[.string s, .int .i64 cf, .int .i64 ef, .bool false]
  go_enter Tryd.func103, Tryd.ntmps103
  go_wp2_with fail
  refine (HI.out _).mono ?_
  rintro e w1 ⟨rfl, hb⟩
  have hk1 := (hk.below hb hk.lt).cell
  have HF := hide (hF.trans (hb.mono hF.size))
  clear hb hk hF
  go_wp2_with fail
  refine (HB.out _).mono ?_
  rintro e w2 ⟨rfl, hb⟩
  replace HF := hide (HF.out.trans (hb.mono HF.out.size))
  clear hb hk1
  go_wp2_with fail
  go_ret
  exact ⟨rfl, HF.out⟩
set_option maxHeartbeats 1000000 in
theorem End_ref (s : ByteArray) (cf ef : Int) (i : Nat) (hi : i ≤ s.size) (hs : s.size ≤ 140737488355328) (w : World) : Calls Tryd.prog 104 #[.agg #[.string s, .int .i64 cf, .int .i64 ef, .bool false], .int .i64 i] w fun e w' =>
    e = .returned (.bool (endB s (bits .and .i64 ef 2 == 0) (!(bits .and .i64 cf 4 == 0)) i)) ∧ Below w.heap.size w w' := by
  have HI := hide (fun y => in_ref s cf ef i hi hs y)
  have HB := hide (fun y => end_ref s cf ef i hi hs y)
  generalize endB s (bits .and .i64 ef 2 == 0) (!(bits .and .i64 cf 4 == 0)) i = r at *
  have hF := ((Below.refl w.heap.size w).alloc (Nat.le_refl _) (.cells #[.string s, .int .i64 cf, .int .i64 ef, .bool false] 34))
  have hk := Blk.new w 34 #[.string s, .int .i64 cf, .int .i64 ef, .bool false]
  go_enter Tryd.func104, Tryd.ntmps104
  go_wp2_with fail
  refine (HI.out _).mono ?_
  rintro e w1 ⟨rfl, hb⟩
  have hk1 := (hk.below hb hk.lt).cell
  have HF := hide (hF.trans (hb.mono hF.size))
  clear hb hk hF
  go_wp2_with fail
  refine (HB.out _).mono ?_
  rintro e w2 ⟨rfl, hb⟩
  replace HF := hide (HF.out.trans (hb.mono HF.out.size))
  clear hb hk1
  go_wp2_with fail
  go_ret
  exact ⟨rfl, HF.out⟩

set_option maxHeartbeats 1000000 in
theorem Byte_ref (s : ByteArray) (cf ef : Int) (i : Nat) (hi : i ≤ s.size) (hs : s.size ≤ 140737488355328) (w : World) : Calls Tryd.prog 105 #[.agg #[.string s, .int .i64 cf, .int .i64 ef, .bool false], .int .i64 i] w fun e w' =>
    e = .returned (.int .i64 (if i < s.size then (byteAt s i : Int) else -1)) ∧ Below w.heap.size w w' := by
  have HF := hide ((Below.refl w.heap.size w).alloc (Nat.le_refl _) (.cells #[.string s, .int .i64 cf, .int .i64 ef, .bool false] 34))
  by_cases hlt : i < s.size
  · rw [if_pos hlt, byteAt_get s i hlt]
    have h256 := s[i].toNat_lt
    have g2 : decide ((s.size : Int) ≤ (i : Int)) = false := decide_eq_false (by omega)
    go_enter Tryd.func105, Tryd.ntmps105
    go_wp2_with fail
    go_ret
    exact ⟨rfl, HF.out⟩
  · rw [if_neg hlt]
    have g2 : decide ((s.size : Int) ≤ (i : Int)) = true := decide_eq_true (by omega)
    go_enter Tryd.func105, Tryd.ntmps105
    go_wp2_with fail
    go_ret
    exact ⟨rfl, HF.out⟩

set_option maxHeartbeats 1000000 in
theorem refHas_any (s0 s1 s2 s3 : Int) (b : Nat) (hb : b < 256) (w : World) (h0 : IsU64 s0) (h1 : IsU64 s1) (h2 : IsU64 s2) (h3 : IsU64 s3) :
    Calls Tryd.prog 106 #[.agg #[.int .u64 s0, .int .u64 s1, .int .u64 s2, .int .u64 s3], .int .u8 b] w fun e w' =>
      e = .returned (.bool (Hd.has ⟨0, s0, s1, s2, s3, 0, 0, 0, false⟩ b)) ∧ Below w.heap.size w w' := by
  have hq : b / 64 < 4 := by omega
  have hr : b % 64 < 64 := Nat.mod_lt _ (by decide)
  obtain ⟨n, hn, hnb⟩ : ∃ n : Nat, Hd.word ⟨0, s0, s1, s2, s3, 0, 0, 0, false⟩ (b / 64) = n ∧ n < 18446744073709551616 := by
    have h : IsU64 (Hd.word ⟨0, s0, s1, s2, s3, 0, 0, 0, false⟩ (b / 64)) := by
      unfold Hd.word
      split
      · exact h0
      · split
        · exact h1
        · split
          · exact h2
          · exact h3
    exact ⟨_, (Int.toNat_of_nonneg h.1).symm, by have := h.2; have := h.1; omega⟩
  have hcell : (w.alloc (.cells #[.int .u64 s0, .int .u64 s1, .int .u64 s2, .int .u64 s3] 49)).cell? ⟨w.heap.size, b / 64, none⟩ = some (.int .u64 n) := by
    rw [(Blk.new w _ _).cell, ← hn]
    have : b / 64 = 0 ∨ b / 64 = 1 ∨ b / 64 = 2 ∨ b / 64 = 3 := by omega
    rcases this with e | e | e | e <;> rw [e] <;> rfl
  have hhas : Hd.has ⟨0, s0, s1, s2, s3, 0, 0, 0, false⟩ b = n.testBit (b % 64) := by
    unfold Hd.has
    rw [hn]; rfl
  have hx := Op_shr n (b % 64) hr
  have hdiv : (b : Int).tdiv 64 = ((b / 64 : Nat) : Int) := by rw [Int.tdiv_eq_ediv_of_nonneg (by omega)]; simp
  have hmod : (b : Int).tmod 64 = ((b % 64 : Nat) : Int) := by rw [Int.tmod_eq_emod_of_nonneg (by omega)]; simp
  have hbit : ((n : Int) / 2 ^ (b % 64)).tmod 2 = (if n.testBit (b % 64) then 1 else 0) := by
    have h2' : (n : Int) / 2 ^ (b % 64) = ((n / 2 ^ (b % 64) : Nat) : Int) := by rw [Int.natCast_ediv]; simp
    rw [h2', Int.tmod_eq_emod_of_nonneg (Int.natCast_nonneg _), Nat.testBit_eq_decide_div_mod_eq]
    by_cases h : n / 2 ^ (b % 64) % 2 = 1
    · simp [h]; omega
    · have : n / 2 ^ (b % 64) % 2 = 0 := by omega
      simp [this]; omega
  rw [hhas]
  clear hhas hn
  cases ht : n.testBit (b % 64)
  all_goals
    rw [ht] at hbit
    have HT := hide ht
    clear ht
    go_enter Tryd.func106, Tryd.ntmps106
    go_wp2_with fail
    go_ret
    exact ⟨rfl, (Below.refl _ _).alloc (Nat.le_refl _) _⟩

/-- The scene x is that of this subject and these flags. -/
structure RefSc (x : Sc) (cf ef : Int) : Prop where
  marks : ∀ i, i ≤ x.text.size → x.mark i = markOf x.text (bits .and .i64 ef 1 == 0) (bits .and .i64 ef 2 == 0) (bits .and .i64 cf 4 != 0) x.text.size i
  small : x.text.size ≤ 140737488355328
end Go.Proofs.YtlomjepemnlliaaDoor
