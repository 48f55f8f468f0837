/- Plain law of chapter 17: the parts that the document's table lays are those that posit lays. -/
import Derived.Test.YtbbhobojghmkpaaDoorLaidLaw
import Derived.Test.YtbbhobojghmkpaaDoorOf17c
set_option linter.unusedSimpArgs false
set_option linter.unusedVariables false
namespace Go.Proofs.YtbbhobojghmkpaaDoor
open Go.RowKit

def MZ : Nat → Nat → Nat := fun _ _ => 0
def orM (M L : Nat → Nat → Nat) : Nat → Nat → Nat := fun i q => M i q ||| L i q
theorem orM_assoc (A B C : Nat → Nat → Nat) : orM (orM A B) C = orM A (orM B C) := by
  funext i q
  simp only [orM, Nat.or_assoc]
theorem orM_zero (A : Nat → Nat → Nat) : orM A MZ = A := by
  funext i q
  simp only [orM, MZ, Nat.or_zero]
theorem zero_orM (A : Nat → Nat → Nat) : orM MZ A = A := by
  funext i q
  simp only [orM, MZ, Nat.zero_or]
theorem ledM_or (M : Nat → Nat → Nat) (l f : Nat → Nat) (b : Nat) : ledM M l f b = orM M (ledM MZ l f b) := by
  funext i q
  simp only [orM, MZ, ledM, Nat.zero_or]

mutual
/-- The ways laid add to those that are there; all else does not lean on these. -/
theorem T.pos_add : ∀ (t : T) (S : List Se) (M : Nat → Nat → Nat), t.pos ⟨S, M⟩ = ((t.pos ⟨S, MZ⟩).1, ⟨(t.pos ⟨S, MZ⟩).2.S, orM M (t.pos ⟨S, MZ⟩).2.M⟩)
  | .mk h l, S, M => by
    unfold T.pos
    split
    · rw [orM_zero]
    split
    · rw [orM_zero]
    split
    · rw [orM_zero]
    split
    · rw [orM_zero]
    split
    · exact TL.posSeq_add l _ S M
    split
    · exact TL.posRep_add l _ S M
    · exact TL.posAlt_add l _ S M
theorem TL.posSeq_add : ∀ (l : List T) (x : Pt) (S : List Se) (M : Nat → Nat → Nat), TL.posSeq l x ⟨S, M⟩ = ((TL.posSeq l x ⟨S, MZ⟩).1, ⟨(TL.posSeq l x ⟨S, MZ⟩).2.S, orM M (TL.posSeq l x ⟨S, MZ⟩).2.M⟩)
  | [], x, S, M => by simp only [TL.posSeq]; rw [orM_zero]
  | t :: l, x, S, M => by
    simp only [TL.posSeq]
    rw [T.pos_add t S M]
    dsimp only
    rw [TL.posSeq_add l _ _ (ledM (orM M (t.pos ⟨S, MZ⟩).2.M) x.lst (t.pos ⟨S, MZ⟩).1.fst 15), TL.posSeq_add l _ _ (ledM (t.pos ⟨S, MZ⟩).2.M x.lst (t.pos ⟨S, MZ⟩).1.fst 15)]
    rw [ledM_or (orM M _), ledM_or (t.pos ⟨S, MZ⟩).2.M]
    simp only [orM_assoc]
theorem TL.posRep_add : ∀ (l : List T) (mx : Int) (S : List Se) (M : Nat → Nat → Nat), TL.posRep l mx ⟨S, M⟩ = ((TL.posRep l mx ⟨S, MZ⟩).1, ⟨(TL.posRep l mx ⟨S, MZ⟩).2.S, orM M (TL.posRep l mx ⟨S, MZ⟩).2.M⟩)
  | [], mx, S, M => by simp only [TL.posRep]; rw [orM_zero]
  | t :: l, mx, S, M => by
    simp only [TL.posRep]
    rw [T.pos_add t S M]
    dsimp only
    split
    · dsimp only
      rw [ledM_or (orM M _), ledM_or (t.pos ⟨S, MZ⟩).2.M]
      simp only [orM_assoc]
    · rfl
theorem TL.posAlt_add : ∀ (l : List T) (x : Pt) (S : List Se) (M : Nat → Nat → Nat), TL.posAlt l x ⟨S, M⟩ = ((TL.posAlt l x ⟨S, MZ⟩).1, ⟨(TL.posAlt l x ⟨S, MZ⟩).2.S, orM M (TL.posAlt l x ⟨S, MZ⟩).2.M⟩)
  | [], x, S, M => by simp only [TL.posAlt]; rw [orM_zero]
  | t :: l, x, S, M => by
    simp only [TL.posAlt]
    rw [T.pos_add t S M]
    dsimp only
    rw [TL.posAlt_add l _ _ (orM M (t.pos ⟨S, MZ⟩).2.M), TL.posAlt_add l _ _ (t.pos ⟨S, MZ⟩).2.M]
    simp only [orM_assoc]
end

/-! ### rows: nulls, links -/
def prod17 : List Pt → Nat
  | [] => 15
  | p :: ps => p.null &&& prod17 ps
def inner17 (l : Nat → Nat) : List Pt → Nat → Nat → Nat → Nat
  | [], _ => MZ
  | q :: qs, b => orM (ledM MZ l q.fst b) (inner17 l qs (b &&& q.null))
theorem inner17_zero (l : Nat → Nat) : ∀ qs, inner17 l qs 0 = MZ
  | [] => rfl
  | q :: qs => by
    rw [inner17, Nat.zero_and, inner17_zero l qs]
    funext i j
    simp [orM, ledM, MZ]
theorem innerGo_eq (l : Nat → Nat) : ∀ (qs : List Pt) (b : Nat) (M : Nat → Nat → Nat), b < 16 → innerGo l qs b M = (b &&& prod17 qs, orM M (inner17 l qs b))
  | [], b, M, hb => by
    rw [innerGo, inner17, orM_zero, prod17]
    congr 1
    have : b &&& 15 = b % 2 ^ 4 := Nat.and_two_pow_sub_one_eq_mod b 4
    omega
  | q :: qs, b, M, hb => by
    rw [innerGo]
    split
    · rename_i h
      subst h
      rw [Nat.zero_and, inner17_zero, orM_zero]
    · rw [innerGo_eq l qs _ _ (Nat.lt_of_le_of_lt Nat.and_le_left hb), prod17, inner17, ledM_or, orM_assoc, Nat.and_assoc]
def first17 (n : Nat) : List Pt → Nat → Nat
  | [], _ => 0
  | p :: ps, i => (p.fst i &&& n) ||| first17 (n &&& p.null) ps i
def last17 : List Pt → Nat → Nat
  | [], _ => 0
  | p :: ps, i => (p.lst i &&& (15 &&& prod17 ps)) ||| last17 ps i
def link17 : List Pt → Nat → Nat → Nat
  | [] => MZ
  | p :: ps => orM (inner17 p.lst ps 15) (link17 ps)
theorem seqGo_eq : ∀ (ps : List Pt) (x : Pt) (M : Nat → Nat → Nat), x.null < 16 → seqGo x ps M = (⟨x.null &&& prod17 ps, fun i => x.fst i ||| first17 x.null ps i, fun i => x.lst i ||| last17 ps i⟩, orM M (link17 ps))
  | [], x, M, hx => by
    rw [seqGo, link17, orM_zero, prod17]
    have : x.null &&& 15 = x.null := by
      have : x.null &&& 15 = x.null % 2 ^ 4 := Nat.and_two_pow_sub_one_eq_mod x.null 4
      omega
    simp only [this, first17, last17, Nat.or_zero]
  | p :: ps, x, M, hx => by
    rw [seqGo, seqGo_eq ps _ _ (Nat.lt_of_le_of_lt Nat.and_le_left hx), innerGo_eq _ _ _ _ (by decide)]
    simp only [prod17, first17, last17, link17, Nat.and_assoc, Nat.or_assoc, orM_assoc]
/-- Bytewise: laws of and, or. -/
theorem inner17_add (u v : Nat → Nat) : ∀ (ps : List Pt) (b : Nat), inner17 (fun i => u i ||| v i) ps b = orM (inner17 u ps b) (inner17 v ps b)
  | [], b => by rw [inner17, inner17, inner17, orM_zero]
  | p :: ps, b => by
    rw [inner17, inner17_add u v ps, inner17, inner17]
    funext i q
    simp only [orM, ledM, MZ, Nat.zero_or]
    apply Nat.eq_of_testBit_eq
    intro j
    simp only [Nat.testBit_or, Nat.testBit_and]
    cases (u i).testBit j <;> cases (v i).testBit j <;> cases (p.fst q).testBit j <;> cases b.testBit j <;> simp
theorem inner17_meet (u : Nat → Nat) (n : Nat) : ∀ (ps : List Pt) (b : Nat), inner17 (fun i => u i &&& n) ps b = inner17 u ps (b &&& n)
  | [], b => rfl
  | p :: ps, b => by
    rw [inner17, inner17_meet u n ps, inner17]
    have e : b &&& p.null &&& n = b &&& n &&& p.null := by rw [Nat.and_assoc, Nat.and_comm p.null, Nat.and_assoc]
    rw [e]
    funext i q
    simp only [orM, ledM, MZ, Nat.zero_or]
    apply Nat.eq_of_testBit_eq
    intro j
    simp only [Nat.testBit_or, Nat.testBit_and]
    cases (u i).testBit j <;> cases n.testBit j <;> cases (p.fst q).testBit j <;> cases b.testBit j <;> simp
/-- The links of rows as posit lays them. -/
def lnk17 : Pt → List Pt → Nat → Nat → Nat
  | _, [] => MZ
  | x, p :: ps => orM (ledM MZ x.lst p.fst 15) (lnk17 (seqPt x p) ps)
theorem lnk17_eq : ∀ (ps : List Pt) (x : Pt), lnk17 x ps = orM (inner17 x.lst ps 15) (link17 ps)
  | [], x => by rw [lnk17, inner17, link17, orM_zero]
  | p :: ps, x => by
    rw [lnk17, lnk17_eq ps, inner17, link17]
    have e : inner17 (seqPt x p).lst ps 15 = orM (inner17 x.lst ps (15 &&& p.null)) (inner17 p.lst ps 15) := by
      show inner17 (fun i => (x.lst i &&& p.null) ||| p.lst i) ps 15 = _
      rw [inner17_add (fun i => x.lst i &&& p.null) p.lst, inner17_meet]
    rw [e]
    simp only [orM_assoc]
theorem small15 {n : Nat} (h : n < 16) : n &&& 15 = n := by
  have : n &&& 15 = n % 2 ^ 4 := Nat.and_two_pow_sub_one_eq_mod n 4
  omega
theorem fold_seq : ∀ (ps : List Pt) (x : Pt), x.lows → (∀ p ∈ ps, p.lows) → ps.foldl seqPt x = ⟨x.null &&& prod17 ps, fun i => x.fst i ||| first17 x.null ps i, fun i => (x.lst i &&& prod17 ps) ||| last17 ps i⟩
  | [], x, hx, _ => by
    simp only [List.foldl_nil, prod17, first17, last17, Nat.or_zero, small15 hx.1, small15 (hx.2.2 _)]
  | p :: ps, x, hx, hp => by
    rw [List.foldl_cons, fold_seq ps _ (seqPt_small hx (hp p (by simp))) fun q hq => hp q (by simp [hq])]
    have hl := (hp p (by simp)).2.2
    simp only [seqPt, prod17, first17, last17, Nat.and_assoc, Nat.or_assoc]
    congr 1
    funext i
    have h1 := small15 (hl i)
    have e : p.lst i &&& (15 &&& prod17 ps) = p.lst i &&& prod17 ps := by rw [← Nat.and_assoc, h1]
    rw [e]
    apply Nat.eq_of_testBit_eq
    intro j
    simp only [Nat.testBit_or, Nat.testBit_and]
    cases (x.lst i).testBit j <;> cases p.null.testBit j <;> cases (p.lst i).testBit j <;> cases (prod17 ps).testBit j <;> simp

theorem small_zero (S : List Se) : MSmall (⟨S, MZ⟩ : St).M := fun _ _ => by show (0 : Nat) < 16; omega
theorem TL.of17_more : ∀ (l : List T) (S : List Se) (M1 M2 : Nat → Nat → Nat), (∀ t ∈ l, ∀ s : St, t.of17 s = t.pos s) → TL.of17 l ⟨S, orM M1 M2⟩ = ((TL.of17 l ⟨S, M1⟩).1, ⟨(TL.of17 l ⟨S, M1⟩).2.S, orM M2 (TL.of17 l ⟨S, M1⟩).2.M⟩)
  | [], S, M1, M2, _ => by
    simp only [TL.of17]
    congr 2
    funext i q
    exact Nat.or_comm _ _
  | t :: l, S, M1, M2, h => by
    have hl : ∀ u ∈ l, ∀ s : St, u.of17 s = u.pos s := fun u hu => h u (by simp [hu])
    simp only [TL.of17]
    rw [h t (by simp), h t (by simp), T.pos_add t S (orM M1 M2), T.pos_add t S M1]
    dsimp only
    have e : orM (orM M1 M2) (t.pos ⟨S, MZ⟩).2.M = orM (orM M1 (t.pos ⟨S, MZ⟩).2.M) M2 := by
      funext i q
      simp only [orM]
      rw [Nat.or_assoc, Nat.or_assoc, Nat.or_comm (M2 i q)]
    rw [e, TL.of17_more l _ _ M2 hl]
/-- The row that posit lays out of its subs' parts. -/
theorem TL.posSeq_parts : ∀ (l : List T) (x : Pt) (S : List Se) (M : Nat → Nat → Nat), (∀ t ∈ l, ∀ s : St, t.of17 s = t.pos s) → TL.posSeq l x ⟨S, M⟩ = ((TL.of17 l ⟨S, M⟩).1.foldl seqPt x, ⟨(TL.of17 l ⟨S, M⟩).2.S, orM (TL.of17 l ⟨S, M⟩).2.M (lnk17 x (TL.of17 l ⟨S, M⟩).1)⟩)
  | [], x, S, M, _ => by simp only [TL.posSeq, TL.of17, List.foldl_nil, lnk17, orM_zero]
  | t :: l, x, S, M, h => by
    have hl : ∀ u ∈ l, ∀ s : St, u.of17 s = u.pos s := fun u hu => h u (by simp [hu])
    simp only [TL.posSeq, TL.of17, List.foldl_cons, lnk17]
    rw [h t (by simp)]
    generalize hr : t.pos ⟨S, M⟩ = r
    obtain ⟨p, S1, M1⟩ := r
    dsimp only
    have h1 := TL.posSeq_parts l (seqPt x p) S1 (ledM M1 x.lst p.fst 15) hl
    have h2 : ∀ M2, TL.of17 l ⟨S1, orM M1 M2⟩ = ((TL.of17 l ⟨S1, M1⟩).1, ⟨(TL.of17 l ⟨S1, M1⟩).2.S, orM M2 (TL.of17 l ⟨S1, M1⟩).2.M⟩) := fun M2 => TL.of17_more l S1 M1 M2 hl
    rw [ledM_or M1] at h1 ⊢
    rw [h1, h2]
    dsimp only
    congr 2
    funext i q
    simp only [orM]
    rw [← Nat.or_assoc, Nat.or_comm (ledM MZ x.lst p.fst 15 i q)]
theorem TL.posAlt_parts : ∀ (l : List T) (x : Pt) (s : St), (∀ t ∈ l, ∀ s : St, t.of17 s = t.pos s) → TL.posAlt l x s = ((TL.of17 l s).1.foldl joinPt x, (TL.of17 l s).2)
  | [], x, s, _ => rfl
  | t :: l, x, s, h => by
    simp only [TL.posAlt, TL.of17, List.foldl_cons]
    rw [h t (by simp), TL.posAlt_parts l _ _ fun u hu => h u (by simp [hu])]
theorem T.pos_lows (t : T) (s : St) : (t.pos s).1.lows := by
  obtain ⟨S, M⟩ := s
  rw [T.pos_add t S M]
  exact (t.pos_small ⟨S, MZ⟩ (small_zero S)).1
theorem TL.of17_lows : ∀ (l : List T) (s : St), (∀ t ∈ l, ∀ s : St, t.of17 s = t.pos s) → ∀ p ∈ (TL.of17 l s).1, p.lows
  | [], s, _, p, hp => by simp [TL.of17] at hp
  | t :: l, s, h, p, hp => by
    simp only [TL.of17] at hp
    rw [h t (by simp)] at hp
    rcases List.mem_cons.1 hp with e | e
    · rw [e]; exact t.pos_lows s
    · exact TL.of17_lows l _ (fun u hu => h u (by simp [hu])) p e
theorem prod17_lt : ∀ ps : List Pt, prod17 ps < 16
  | [] => by decide
  | p :: ps => Nat.lt_of_le_of_lt Nat.and_le_right (prod17_lt ps)
theorem TL.inner_nil : ∀ (ps : List Pt) (b : Nat), inner17 (fun _ => 0) ps b = MZ
  | [], _ => rfl
  | p :: ps, b => by
    rw [inner17, TL.inner_nil ps]
    funext i j
    simp [orM, ledM, MZ]
mutual
/-- The document's parts are posit's. -/
theorem T.of17_pos : ∀ (t : T), t.three → ∀ s : St, t.of17 s = t.pos s
  | .mk h l, h3, s => by
    simp only [T.three] at h3
    obtain ⟨⟨⟨k1, k8⟩, hleaf, hrep⟩, hl⟩ := h3
    have ih := TL.of17_all l hl
    obtain ⟨S, M⟩ := s
    unfold T.of17 T.pos node17
    by_cases h4 : h.kind ≤ 4
    · rw [hleaf h4]
      simp only [TL.of17]
      have : h.kind = 1 ∨ h.kind = 2 ∨ h.kind = 3 ∨ h.kind = 4 := by omega
      rcases this with e | e | e | e <;> simp [e, blankPt, ptOf, bytePt] <;> rfl
    by_cases h5 : h.kind = 5
    · simp only [h5]
      simp
      rw [seqGo_eq _ _ _ (by decide), TL.posSeq_parts l _ S M ih, lnk17_eq, fold_seq _ _ (ptOf_small (by decide)) (TL.of17_lows l _ ih)]
      dsimp only [ptOf]
      congr 2
      · congr 1
        funext i
        simp
      · rw [show inner17 (fun _ => 0) (TL.of17 l ⟨S, M⟩).1 15 = MZ from TL.inner_nil _ _, zero_orM]
    by_cases h8 : h.kind = 8
    · simp only [h8]
      obtain ⟨t, rfl⟩ := List.length_eq_one_iff.1 (hrep h8)
      simp [TL.of17, repPt17, TL.posRep, ih t (by simp)]
    · have e6 : h.kind = 6 ∨ h.kind = 7 := by omega
      rcases e6 with e | e <;> simp [e, TL.posAlt_parts l _ _ ih, zeroPt, ptOf]
theorem TL.of17_all : ∀ (l : List T), TL.three l → ∀ u ∈ l, ∀ s : St, u.of17 s = u.pos s
  | [], _, u, hu, _ => by simp at hu
  | t :: l, h3, u, hu, s => by
    simp only [TL.three] at h3
    rcases List.mem_cons.1 hu with e | e
    · rw [e]; exact T.of17_pos t h3.1 s
    · exact TL.of17_all l h3.2 u e s
end
/-- The document's positions are posit's. -/
theorem posits_laid {t : T} (h : t.three) : t.posits = t.laid := by
  have e : t.of17 ⟨[], fun _ _ => 0⟩ = t.posOf := t.of17_pos h _
  have hl : t.leaves = t.posOf.2.S.length := by
    rw [← e, T.of17_len]
    simp
  unfold T.posits T.laid
  rw [e, hl]
theorem laid_len (t : T) : t.laid.first.length ≤ t.laid.sets.length ∧ t.laid.last.length ≤ t.laid.sets.length ∧ t.laid.follow.length ≤ t.laid.sets.length ∧ ∀ r ∈ t.laid.follow, r.length ≤ t.laid.sets.length := by
  refine ⟨edgesOf_len _ _, edgesOf_len _ _, by simp [T.laid], fun r hr => ?_⟩
  simp only [T.laid, List.mem_map] at hr
  obtain ⟨i, _, rfl⟩ := hr
  exact edgesOf_len _ _
end Go.Proofs.YtbbhobojghmkpaaDoor
