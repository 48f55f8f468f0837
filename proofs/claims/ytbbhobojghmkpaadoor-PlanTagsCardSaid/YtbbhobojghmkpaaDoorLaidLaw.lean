/- LaidLaw: What posit lays is in form, and its positions are as many as the tree has bytes.
Bytes17: trawllaw17.bytes: how many bytes a tree has. -/
import Derived.Test.YtbbhobojghmkpaaDoorPosMade
set_option linter.unusedSimpArgs false
set_option linter.unusedVariables false
set_option linter.unnecessarySimpa false

/-! ## LaidLaw -/
namespace Go.Proofs.YtbbhobojghmkpaaDoor
open Go.RowKit

theorem edgesOf_pair (n : Nat) (f : Nat → Nat) : (edgesOf n f).Pairwise (fun d e => d.1 < e.1) := by
  unfold edgesOf
  rw [List.pairwise_map]
  exact (List.pairwise_lt_range.filter _).imp fun h => by show ((_ : Nat) : Int) < ((_ : Nat) : Int); exact Int.ofNat_lt.2 h
theorem edgesOf_mem {n : Nat} {f : Nat → Nat} {e : Ed} (h : e ∈ edgesOf n f) : ∃ q, q < n ∧ f q ≠ 0 ∧ e = (((q : Nat) : Int), ((f q : Nat) : Int)) := by
  unfold edgesOf at h
  simp only [List.mem_map, List.mem_filter, List.mem_range, bne_iff_ne] at h
  obtain ⟨q, ⟨h1, h2⟩, rfl⟩ := h
  exact ⟨q, h1, h2, rfl⟩
theorem edgesOf_ok {n : Nat} {f : Nat → Nat} (h : ∀ q, f q < 16) : EdOk n (edgesOf n f) := fun i e hi he => by
  obtain ⟨hi', rfl⟩ := List.getElem?_eq_some_iff.1 he
  obtain ⟨q, h1, h2, h3⟩ := edgesOf_mem (List.getElem_mem hi')
  have h4 := h q
  refine ⟨by rw [h3]; simp, by rw [h3]; simp; omega, by rw [h3]; simp; omega, by rw [h3]; simp; omega, fun d h0 hd => ?_⟩
  obtain ⟨hd', rfl⟩ := List.getElem?_eq_some_iff.1 hd
  exact List.pairwise_iff_getElem.1 (edgesOf_pair n f) (i - 1) i hd' hi' (by omega)

def Pt.lows (x : Pt) : Prop := x.null < 16 ∧ (∀ q, x.fst q < 16) ∧ ∀ q, x.lst q < 16
def MSmall (M : Nat → Nat → Nat) : Prop := ∀ i q, M i q < 16
theorem ledM_small {M : Nat → Nat → Nat} {l f : Nat → Nat} (h : MSmall M) (hl : ∀ q, l q < 16) (hf : ∀ q, f q < 16) : MSmall (ledM M l f 15) := fun i q => orL (h i q) (andL (andL (hl i) (hf q)) (by omega))
theorem ptOf_small {k : Nat} (hk : k < 16) : (ptOf k).lows := ⟨hk, fun q => by show (0 : Nat) < 16; omega, fun q => by show (0 : Nat) < 16; omega⟩
theorem bytePt_small (n : Nat) : (bytePt n).lows := ⟨by show (0 : Nat) < 16; omega, fun q => by show (if q = n then 15 else 0) < 16; split <;> omega, fun q => by show (if q = n then 15 else 0) < 16; split <;> omega⟩
theorem joinPt_small {x y : Pt} (hx : x.lows) (hy : y.lows) : (joinPt x y).lows := ⟨orL hx.1 hy.1, fun q => orL (hx.2.1 q) (hy.2.1 q), fun q => orL (hx.2.2 q) (hy.2.2 q)⟩
theorem seqPt_small {x y : Pt} (hx : x.lows) (hy : y.lows) : (seqPt x y).lows := ⟨andL hx.1 hy.1, fun q => orL (hx.2.1 q) (andL (hy.2.1 q) hx.1), fun q => orL (andL (hx.2.2 q) hy.1) (hy.2.2 q)⟩
mutual
theorem T.pos_small : ∀ (t : T) (s : St), MSmall s.M → (t.pos s).1.lows ∧ MSmall (t.pos s).2.M
  | .mk h l, s, hM => by
    unfold T.pos
    split
    · exact ⟨ptOf_small (by omega), hM⟩
    split
    · exact ⟨ptOf_small (by omega), hM⟩
    split
    · exact ⟨ptOf_small (by omega), hM⟩
    split
    · exact ⟨bytePt_small _, hM⟩
    split
    · exact TL.posSeq_small l _ s (ptOf_small (by omega)) hM
    split
    · exact TL.posRep_small l _ s hM
    · exact TL.posAlt_small l _ s (ptOf_small (by omega)) hM
theorem TL.posSeq_small : ∀ (l : List T) (x : Pt) (s : St), x.lows → MSmall s.M → (TL.posSeq l x s).1.lows ∧ MSmall (TL.posSeq l x s).2.M
  | [], x, s, hx, hM => ⟨hx, hM⟩
  | t :: l, x, s, hx, hM => by
    obtain ⟨h1, h2⟩ := t.pos_small s hM
    rw [TL.posSeq]
    exact TL.posSeq_small l _ _ (seqPt_small hx h1) (ledM_small h2 hx.2.2 h1.2.1)
theorem TL.posRep_small : ∀ (l : List T) (mx : Int) (s : St), MSmall s.M → (TL.posRep l mx s).1.lows ∧ MSmall (TL.posRep l mx s).2.M
  | [], mx, s, hM => ⟨ptOf_small (by omega), hM⟩
  | t :: l, mx, s, hM => by
    obtain ⟨h1, h2⟩ := t.pos_small s hM
    rw [TL.posRep]
    split
    · exact ⟨⟨by show (15 : Nat) < 16; omega, h1.2⟩, ledM_small h2 h1.2.2 h1.2.1⟩
    · exact ⟨⟨by show (15 : Nat) < 16; omega, h1.2⟩, h2⟩
theorem TL.posAlt_small : ∀ (l : List T) (x : Pt) (s : St), x.lows → MSmall s.M → (TL.posAlt l x s).1.lows ∧ MSmall (TL.posAlt l x s).2.M
  | [], x, s, hx, hM => ⟨hx, hM⟩
  | t :: l, x, s, hx, hM => by
    obtain ⟨h1, h2⟩ := t.pos_small s hM
    rw [TL.posAlt]
    exact TL.posAlt_small l _ _ (joinPt_small hx h1) h2
end
theorem T.posOf_small (t : T) : t.posOf.1.lows ∧ MSmall t.posOf.2.M := t.pos_small _ fun i q => by show (0 : Nat) < 16; omega
theorem T.laid_ok (t : T) : t.laid.Ok := by
  obtain ⟨h1, h2⟩ := t.posOf_small
  refine ⟨by simp [T.laid], by simp [T.laid], ?_, edgesOf_ok h1.2.1, edgesOf_ok h1.2.2, fun i l hl => ?_⟩
  · have := h1.1
    show ((t.posOf.1.null : Nat) : Int) ≤ 15
    omega
  · simp only [T.laid, List.getElem?_map] at hl
    obtain ⟨j, hj, rfl⟩ := Option.map_eq_some_iff.1 hl
    exact edgesOf_ok (h2 j)

/-! ## How many positions -/
mutual
/-- How many bytes a tree has. -/
def T.dots : T → Nat
  | .mk h l => (if h.kind = 2 then 1 else 0) + TL.dots l
def TL.dots : List T → Nat
  | [] => 0
  | t :: l => t.dots + TL.dots l
end
mutual
/-- Leaves are leaves, repeats have one Sub, sets are sets. -/
def T.flat : T → Prop
  | .mk h l => ((h.kind = 1 ∨ h.kind = 2 ∨ h.kind = 3 ∨ h.kind = 4 → l.length = 0) ∧ (h.kind = 8 → l.length = 1) ∧ Se.wf (h.s0, h.s1, h.s2, h.s3)) ∧ TL.flat l
def TL.flat : List T → Prop
  | [] => True
  | t :: l => t.flat ∧ TL.flat l
end
mutual
theorem T.flat_of : ∀ t : T, t.form = true → t.wf → t.flat
  | .mk h l, hf, hw => by
    rw [T.form_eq, Bool.and_eq_true] at hf
    rw [T.wf_eq] at hw
    refine ⟨⟨fun hk => ?_, fun hk => ?_, ?_⟩, TL.flat_of l hf.2 hw.2.2⟩
    · have h1 : h.formed l.length = true := hf.1
      unfold Hd.formed at h1
      by_cases h2 : h.kind = 2
      · rw [if_neg (by omega), if_pos h2] at h1
        simp only [Bool.and_eq_true, beq_iff_eq] at h1
        omega
      · rw [if_pos (by omega)] at h1
        simp only [Bool.and_eq_true, beq_iff_eq] at h1
        omega
    · obtain ⟨t, rfl, _⟩ := rep_sub (h := h) (l := l) (by rw [T.form_eq, Bool.and_eq_true]; exact hf) hk
      rfl
    · obtain ⟨a, b, c, d, e, _⟩ := hw.1
      first | exact ⟨a, b, c, d⟩ | exact ⟨b, c, d, e⟩
theorem TL.flat_of : ∀ l : List T, TL.form l = true → TL.wf l → TL.flat l
  | [], _, _ => trivial
  | t :: l, hf, hw => by
    simp only [TL.form, Bool.and_eq_true] at hf
    exact ⟨T.flat_of t hf.1 hw.1, TL.flat_of l hf.2 hw.2⟩
end
theorem TL.flat_append : ∀ a b : List T, TL.flat a → TL.flat b → TL.flat (a ++ b)
  | [], b, _, h => h
  | t :: a, b, h, hb => ⟨h.1, TL.flat_append a b h.2 hb⟩
theorem flat_replicate {x : T} (hx : x.flat) : ∀ n, TL.flat (List.replicate n x)
  | 0 => trivial
  | n + 1 => ⟨hx, flat_replicate hx n⟩
theorem zero_se : Se.wf (0, 0, 0, 0) := by unfold Se.wf IsU64; simp
theorem flat_rep {x : T} (hx : x.flat) (num mn mx : Int) (b : Bool) : (T.mk ⟨8, 0, 0, 0, 0, num, mn, mx, b⟩ [x]).flat := ⟨⟨fun h => by simp at h, fun _ => rfl, zero_se⟩, hx, trivial⟩
theorem flat_opt {x : T} (hx : x.flat) : ∀ n b, TL.flat (optList x n b)
  | 0, _ => trivial
  | n + 1, b => ⟨flat_rep hx _ _ _ _, flat_opt hx n true⟩
theorem flat_seq {l : List T} (h : TL.flat l) : (T.seq l).flat := by
  cases l with
  | nil => exact ⟨⟨fun _ => rfl, fun h => by simp at h, zero_se⟩, trivial⟩
  | cons a r =>
    cases r with
    | nil => exact h.1
    | cons b r => exact ⟨⟨fun h => by simp at h, fun h => by simp at h, zero_se⟩, h⟩
mutual
theorem T.exp_flat : ∀ t : T, t.flat → t.exp.flat
  | .mk h l, hf => by
    obtain ⟨⟨f1, f2, f3⟩, f4⟩ := hf
    by_cases h8 : h.kind = 8
    · have hl := f2 h8
      match l, hl, f4 with
      | [t], _, f4 =>
        have ih := T.exp_flat t f4.1
        simp only [T.exp, if_pos h8, TL.expRep]
        by_cases hz : h.max = 0
        · rw [if_pos hz]
          exact flat_seq trivial
        · rw [if_neg hz]
          by_cases hq : h.min = 0 ∧ (h.max = 1 ∨ h.max = -1)
          · rw [if_pos hq]
            exact ⟨⟨fun hk => by omega, fun _ => rfl, f3⟩, ih, trivial⟩
          · rw [if_neg hq]
            refine flat_seq (TL.flat_append _ _ (TL.flat_append _ _ (flat_replicate ih _) (flat_opt ih _ _)) ?_)
            split
            · exact ⟨flat_rep ih _ _ _ _, trivial⟩
            · trivial
    · simp only [T.exp, if_neg h8]
      exact ⟨⟨fun hk => by rw [TL.exp_len]; exact f1 hk, fun hk => absurd hk h8, f3⟩, TL.exp_flat l f4⟩
theorem TL.exp_flat : ∀ l : List T, TL.flat l → TL.flat (TL.exp l)
  | [], _ => trivial
  | t :: l, hf => ⟨T.exp_flat t hf.1, TL.exp_flat l hf.2⟩
end
def SesOk (S : List Se) : Prop := ∀ e ∈ S, Se.wf e
mutual
theorem T.pos_dots : ∀ (t : T) (s : St), t.flat → SesOk s.S → (t.pos s).2.S.length = s.S.length + t.dots ∧ SesOk (t.pos s).2.S
  | .mk h l, s, hf, hS => by
    obtain ⟨⟨f1, f2, f3⟩, f4⟩ := hf
    have e0 : l.length = 0 → TL.dots l = 0 := fun h => by
      obtain rfl : l = [] := List.eq_nil_of_length_eq_zero h
      rfl
    unfold T.pos T.dots
    split
    · rw [e0 (f1 (by omega)), if_neg (by omega)]; exact ⟨rfl, hS⟩
    split
    · rw [e0 (f1 (by omega)), if_neg (by omega)]; exact ⟨rfl, hS⟩
    split
    · rw [e0 (f1 (by omega)), if_neg (by omega)]; exact ⟨rfl, hS⟩
    split
    · rename_i h2
      rw [e0 (f1 (by omega))]
      refine ⟨by simp, fun e he => ?_⟩
      rcases List.mem_append.1 he with h3 | h3
      · exact hS e h3
      · rw [List.mem_singleton.1 h3]; exact f3
    rename_i h1 h3 h4 h2
    rw [Nat.zero_add]
    split
    · exact TL.posSeq_dots l _ s f4 hS
    split
    · rename_i h8
      exact TL.posRep_dots l _ s (f2 h8) f4 hS
    · exact TL.posAlt_dots l _ s f4 hS
theorem TL.posSeq_dots : ∀ (l : List T) (x : Pt) (s : St), TL.flat l → SesOk s.S → (TL.posSeq l x s).2.S.length = s.S.length + TL.dots l ∧ SesOk (TL.posSeq l x s).2.S
  | [], x, s, _, hS => ⟨rfl, hS⟩
  | t :: l, x, s, hf, hS => by
    obtain ⟨h1, h2⟩ := t.pos_dots s hf.1 hS
    obtain ⟨h3, h4⟩ := TL.posSeq_dots l (seqPt x (t.pos s).1) ⟨(t.pos s).2.S, ledM (t.pos s).2.M x.lst (t.pos s).1.fst 15⟩ hf.2 h2
    rw [TL.posSeq, TL.dots]
    exact ⟨by rw [h3]; show (t.pos s).2.S.length + _ = _; omega, h4⟩
theorem TL.posRep_dots : ∀ (l : List T) (mx : Int) (s : St), l.length = 1 → TL.flat l → SesOk s.S → (TL.posRep l mx s).2.S.length = s.S.length + TL.dots l ∧ SesOk (TL.posRep l mx s).2.S
  | [], mx, s, hl, _, hS => by cases hl
  | t :: l, mx, s, hl, hf, hS => by
    obtain ⟨h1, h2⟩ := t.pos_dots s hf.1 hS
    obtain rfl : l = [] := List.eq_nil_of_length_eq_zero (by simpa using hl)
    rw [TL.posRep, TL.dots, TL.dots]
    split
    · exact ⟨by show (t.pos s).2.S.length = _; omega, h2⟩
    · exact ⟨by omega, h2⟩
theorem TL.posAlt_dots : ∀ (l : List T) (x : Pt) (s : St), TL.flat l → SesOk s.S → (TL.posAlt l x s).2.S.length = s.S.length + TL.dots l ∧ SesOk (TL.posAlt l x s).2.S
  | [], x, s, _, hS => ⟨rfl, hS⟩
  | t :: l, x, s, hf, hS => by
    obtain ⟨h1, h2⟩ := t.pos_dots s hf.1 hS
    obtain ⟨h3, h4⟩ := TL.posAlt_dots l (joinPt x (t.pos s).1) (t.pos s).2 hf.2 h2
    rw [TL.posAlt, TL.dots]
    exact ⟨by omega, h4⟩
end
theorem T.laid_dots {t : T} (h : t.flat) : t.laid.sets.length = t.dots := by
  have := (t.pos_dots ⟨[], fun _ _ => 0⟩ h (fun e he => by cases he)).1
  show t.posOf.2.S.length = t.dots
  unfold T.posOf
  rw [this]
  simp
theorem edgesOf_wf {n : Nat} {f : Nat → Nat} (hn : n ≤ 1000000) (h : ∀ q, f q < 16) : ∀ e ∈ edgesOf n f, Ed.wf e := fun e he => by
  obtain ⟨q, h1, _, rfl⟩ := edgesOf_mem he
  have := h q
  unfold Ed.wf IsI64
  simp only
  omega
theorem T.laid_wf {t : T} (h : t.flat) (hn : t.nodes ≤ 1000000) : t.laid.wf := by
  obtain ⟨h1, h2⟩ := t.posOf_small
  have h3 := t.pos_len ⟨[], fun _ _ => 0⟩
  have h4 : t.posOf.2.S.length ≤ 1000000 := by unfold T.posOf; simp only [List.length_nil] at h3; omega
  have h5 := edgesOf_len t.posOf.2.S.length t.posOf.1.fst
  have h6 := edgesOf_len t.posOf.2.S.length t.posOf.1.lst
  refine ⟨?_, (t.pos_dots ⟨[], fun _ _ => 0⟩ h (fun e he => by cases he)).2, edgesOf_wf h4 h1.2.1, edgesOf_wf h4 h1.2.2, fun l hl => ?_, ?_, ?_, ?_, ?_⟩
  · have := h1.1
    show IsI64 ((t.posOf.1.null : Nat) : Int)
    unfold IsI64
    omega
  · simp only [T.laid, List.mem_map] at hl
    obtain ⟨j, _, rfl⟩ := hl
    exact ⟨by have := edgesOf_len t.posOf.2.S.length (t.posOf.2.M j); omega, edgesOf_wf h4 (h2 j)⟩
  · show t.posOf.2.S.length ≤ _; omega
  · show (edgesOf _ _).length ≤ _; omega
  · show (edgesOf _ _).length ≤ _; omega
  · simp only [T.laid, List.length_map, List.length_range]; omega
end Go.Proofs.YtbbhobojghmkpaaDoor

/-! ## Bytes17 -/
namespace Go.Proofs.YtbbhobojghmkpaaDoor
open Go.RowKit

theorem TL.dots_eq : ∀ (l : List T) (n : Int), (l.foldl (fun n s => n + ((s.dots : Nat) : Int)) n) = n + ((TL.dots l : Nat) : Int)
  | [], n => by simp [TL.dots]
  | t :: l, n => by
    rw [List.foldl_cons, TL.dots_eq l, TL.dots]
    omega
mutual
theorem T.dots_le : ∀ t : T, t.dots ≤ t.nodes
  | .mk h l => by
    have := TL.dots_le l
    rw [T.dots, T.nodes]
    split <;> omega
theorem TL.dots_le : ∀ l : List T, TL.dots l ≤ TL.nodes l
  | [] => by simp [TL.dots]
  | t :: l => by
    have h1 := T.dots_le t
    have h2 := TL.dots_le l
    rw [TL.dots, TL.nodes]
    omega
end
theorem TL.dots_take : ∀ (l : List T) (k : Nat), TL.dots (l.take k) ≤ TL.dots l
  | [], k => by simp [TL.dots]
  | t :: l, 0 => by simp [TL.dots]
  | t :: l, k + 1 => by
    have := TL.dots_take l k
    simp only [List.take_succ_cons, TL.dots]
    omega

end Go.Proofs.YtbbhobojghmkpaaDoor
