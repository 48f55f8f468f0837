/- need, in plain Lean: the one text that a tree takes, a text that each piece of it has. -/
import Derived.Test.YtbbhobojghmkpaaDoorCheck
import Derived.Test.YtbbhobojghmkpaaDoorHas
import Derived.Test.YtbbhobojghmkpaaDoorOctCount
import Derived.Lib.Repeat
set_option linter.unusedSimpArgs false
set_option linter.unusedVariables false
namespace Go.Proofs.YtbbhobojghmkpaaDoor
open Go.RowKit

def Hd.count (h : Hd) : Nat := cntb (fun b => h.has b) 256
def Hd.first (h : Hd) : Nat := ((List.range 256).find? fun b => h.has b).getD 0
/-- So many copies of a text. -/
def rept (s : ByteArray) (n : Nat) : ByteArray := ⟨(Lib.repeatL s.data.toList n).toArray⟩
theorem empty_app (s : ByteArray) : (⟨#[]⟩ : ByteArray) ++ s = s := by apply ByteArray.ext; simp
theorem app_size (a b : ByteArray) : (a ++ b).size = a.size + b.size := ByteArray.size_append
theorem size_zero {s : ByteArray} (h : s.size = 0) : s = ⟨#[]⟩ := by
  apply ByteArray.ext
  apply Array.eq_empty_of_size_eq_zero
  exact h
theorem rept_size (s : ByteArray) (n : Nat) : (rept s n).size = n * s.size := by
  show (Lib.repeatL s.data.toList n).toArray.size = _
  rw [List.size_toArray, Lib.repeatL_length]
  simp
theorem rept_zero (s : ByteArray) : rept s 0 = ⟨#[]⟩ := rfl
theorem rept_succ (s : ByteArray) (n : Nat) : rept s (n + 1) = rept s n ++ s := by
  apply ByteArray.ext
  apply Array.toList_inj.1
  unfold rept
  rw [Lib.repeatL_add s.data.toList n 1]
  simp [Lib.repeatL]
/-- The one text of a row of trees, behind what the trees ahead take. -/
def seqO : ByteArray → List (Option ByteArray) → Option ByteArray
  | acc, [] => some acc
  | _, none :: _ => none
  | acc, some s :: r => if 64 < (acc ++ s).size then none else seqO (acc ++ s) r
/-- The one text of alternatives. -/
def altO : List (Option ByteArray) → Option ByteArray
  | [] => some ⟨#[]⟩
  | none :: _ => none
  | some s :: r => if r.all (fun o => decide (o = some s)) then some s else none
def hd1 : List (Option ByteArray) → Option ByteArray
  | x :: _ => x
  | [] => none
def repO (mn mx : Int) : Option ByteArray → Option ByteArray
  | none => none
  | some s => if s.size = 0 then some ⟨#[]⟩ else if mx ≠ mn ∨ 64 < mn * (s.size : Int) then none else some (rept s mn.toNat)
def Hd.only (h : Hd) (l : List (Option ByteArray)) : Option ByteArray :=
  if h.kind = 2 then (if h.count = 1 then some ⟨#[h.first.toUInt8]⟩ else none)
  else if h.kind = 7 then hd1 l
  else if h.kind = 8 then (if h.max = 0 then some ⟨#[]⟩ else repO h.min h.max (hd1 l))
  else if h.kind = 5 then seqO ⟨#[]⟩ l
  else if h.kind = 6 then altO l
  else some ⟨#[]⟩
mutual
/-- The one text that a right tree takes. -/
def T.only : T → Option ByteArray
  | .mk h l => h.only (TL.onlys l)
def TL.onlys : List T → List (Option ByteArray)
  | [] => []
  | t :: ts => t.only :: TL.onlys ts
end
theorem TL.onlys_map : ∀ l : List T, TL.onlys l = l.map T.only
  | [] => rfl
  | t :: ts => by rw [TL.onlys, TL.onlys_map ts]; rfl
def keepB (b s : ByteArray) : ByteArray := if b.size < s.size then s else b
def lstep (st : ByteArray × ByteArray) (x : Option ByteArray × ByteArray) : ByteArray × ByteArray :=
  match x.1 with
  | none => (keepB (keepB st.1 st.2) x.2, ⟨#[]⟩)
  | some s => if 64 < st.2.size + s.size then (keepB st.1 st.2, s) else (st.1, st.2 ++ s)
/-- The longest text that a row of trees needs. -/
def longP (l : List (Option ByteArray × ByteArray)) : ByteArray := keepB (l.foldl lstep (⟨#[]⟩, ⟨#[]⟩)).1 (l.foldl lstep (⟨#[]⟩, ⟨#[]⟩)).2
def hd2 : List (Option ByteArray × ByteArray) → ByteArray
  | x :: _ => x.2
  | [] => ⟨#[]⟩
def Hd.req (h : Hd) (o : Option ByteArray) (l : List (Option ByteArray × ByteArray)) : ByteArray :=
  match o with
  | some s => s
  | none => if h.kind = 8 then (if h.min = 0 then ⟨#[]⟩ else hd2 l) else if h.kind = 7 then hd2 l else if h.kind = 5 then longP l else ⟨#[]⟩
mutual
/-- A text that is in every piece that a right tree takes. -/
def T.req : T → ByteArray
  | .mk h l => h.req (T.only (.mk h l)) (TL.reqs l)
def TL.reqs : List T → List (Option ByteArray × ByteArray)
  | [] => []
  | t :: ts => (t.only, t.req) :: TL.reqs ts
end
theorem TL.reqs_map : ∀ l : List T, TL.reqs l = l.map fun t => (t.only, t.req)
  | [] => rfl
  | t :: ts => by rw [TL.reqs, TL.reqs_map ts]; rfl

/-! ### Bounds -/
theorem seqO_size : ∀ (l : List (Option ByteArray)) (acc s : ByteArray), acc.size ≤ 64 → seqO acc l = some s → s.size ≤ 64
  | [], acc, s, h, e => by obtain rfl := Option.some.inj e; exact h
  | none :: _, acc, s, h, e => by cases e
  | some x :: r, acc, s, h, e => by
    rw [seqO] at e
    split at e
    · cases e
    · exact seqO_size r _ s (by omega) e
theorem T.form_min {h : Hd} {l : List T} (hf : (T.mk h l).form = true) (hk : h.kind = 8) : 0 ≤ h.min ∧ h.min ≤ 255 ∧ l.length = 1 := by
  rw [T.form_eq] at hf
  simp only [Bool.and_eq_true] at hf
  have h1 := hf.1
  simp only [T.hd, T.subs] at h1
  unfold Hd.formed at h1
  rw [if_neg (by omega), if_neg (by omega), if_neg (by omega), if_neg (by omega), if_pos hk] at h1
  simp at h1
  obtain ⟨⟨⟨⟨⟨⟨h2, h3⟩, h4⟩, h5⟩, h6⟩, h7⟩, h8⟩ := h1
  omega
theorem T.form_sub {h : Hd} {l : List T} (hf : (T.mk h l).form = true) : TL.form l = true := by
  rw [T.form_eq, Bool.and_eq_true] at hf
  exact hf.2
theorem repO_size {mn mx : Int} {o : Option ByteArray} {s : ByteArray} (h0 : 0 ≤ mn) (ho : ∀ x, o = some x → x.size ≤ 64) (e : repO mn mx o = some s) : s.size ≤ 64 := by
  cases o with
  | none => cases e
  | some x =>
    rw [repO] at e
    split at e
    · obtain rfl := Option.some.inj e; decide
    · split at e
      · cases e
      · rename_i h1 h2
        obtain rfl := Option.some.inj e
        rw [rept_size]
        have h3 : mn * (x.size : Int) ≤ 64 := by omega
        have h4 : ((mn.toNat * x.size : Nat) : Int) = mn * (x.size : Int) := by
          rw [Int.natCast_mul, Int.toNat_of_nonneg h0]
        omega
mutual
theorem T.only_size : ∀ (t : T), t.form = true → ∀ s, t.only = some s → s.size ≤ 64
  | .mk h l, hf, s, e => by
    have hsub := TL.only_size l (T.form_sub hf)
    have hh : ∀ x, hd1 (TL.onlys l) = some x → x.size ≤ 64 := fun x hx => by
      cases l with
      | nil => cases hx
      | cons t r => exact hsub t (by simp) x hx
    rw [T.only, Hd.only] at e
    split at e
    · split at e
      · obtain rfl := Option.some.inj e
        show (#[h.first.toUInt8] : Array UInt8).size ≤ 64
        simp
      · cases e
    · split at e
      · exact hh s e
      · split at e
        · rename_i hk
          split at e
          · obtain rfl := Option.some.inj e; decide
          · exact repO_size (T.form_min hf hk).1 hh e
        · split at e
          · exact seqO_size _ _ s (by decide) e
          · split at e
            · cases l with
              | nil => obtain rfl := Option.some.inj e; decide
              | cons t r =>
                rw [TL.onlys] at e
                cases ho : t.only with
                | none => rw [ho] at e; cases e
                | some x =>
                  rw [ho, altO] at e
                  split at e
                  · obtain rfl := Option.some.inj e
                    exact hsub t (by simp) _ ho
                  · cases e
            · obtain rfl := Option.some.inj e; decide
theorem TL.only_size : ∀ (l : List T), TL.form l = true → ∀ t ∈ l, ∀ s, t.only = some s → s.size ≤ 64
  | [], _, t, hm, _, _ => by cases hm
  | x :: l, hf, t, hm, s, e => by
    rw [TL.form, Bool.and_eq_true] at hf
    rcases List.mem_cons.1 hm with h | h
    · rw [h] at e; exact T.only_size x hf.1 s e
    · exact TL.only_size l hf.2 t h s e
end
theorem keepB_size {a b : ByteArray} {n : Nat} (h1 : a.size ≤ n) (h2 : b.size ≤ n) : (keepB a b).size ≤ n := by unfold keepB; split <;> assumption
theorem lfold_size : ∀ (l : List (Option ByteArray × ByteArray)) (st : ByteArray × ByteArray), st.1.size ≤ 64 → st.2.size ≤ 64 → (∀ x ∈ l, (∀ s, x.1 = some s → s.size ≤ 64) ∧ x.2.size ≤ 64) → (l.foldl lstep st).1.size ≤ 64 ∧ (l.foldl lstep st).2.size ≤ 64
  | [], st, h1, h2, _ => ⟨h1, h2⟩
  | x :: l, st, h1, h2, h => by
    have hx := h x (by simp)
    rw [List.foldl_cons]
    refine lfold_size l _ ?_ ?_ (fun y hy => h y (by simp [hy]))
    · unfold lstep
      split
      · exact keepB_size (keepB_size h1 h2) hx.2
      · split
        · exact keepB_size h1 h2
        · exact h1
    · unfold lstep
      split
      · exact Nat.zero_le _
      · rename_i s e
        split
        · exact hx.1 s e
        · show (st.2 ++ s).size ≤ 64
          rw [app_size]; omega
mutual
theorem T.req_size : ∀ (t : T), t.form = true → t.req.size ≤ 64
  | .mk h l, hf => by
    have hsub := TL.req_size l (T.form_sub hf)
    have ho := T.only_size (.mk h l) hf
    have hh : (hd2 (TL.reqs l)).size ≤ 64 := by
      cases l with
      | nil => decide
      | cons t r => exact hsub t (by simp)
    rw [T.req, Hd.req.eq_def]
    split
    · rename_i s e; exact ho s e
    · split
      · split
        · decide
        · exact hh
      · split
        · exact hh
        · split
          · have hx : ∀ x ∈ TL.reqs l, (∀ s, x.1 = some s → s.size ≤ 64) ∧ x.2.size ≤ 64 := fun x hm => by
              rw [TL.reqs_map] at hm
              obtain ⟨t, ht, rfl⟩ := List.mem_map.1 hm
              exact ⟨TL.only_size l (T.form_sub hf) t ht, hsub t ht⟩
            have := lfold_size (TL.reqs l) (⟨#[]⟩, ⟨#[]⟩) (by decide) (by decide) hx
            exact keepB_size this.1 this.2
          · decide
theorem TL.req_size : ∀ (l : List T), TL.form l = true → ∀ t ∈ l, t.req.size ≤ 64
  | [], _, t, hm => by cases hm
  | x :: l, hf, t, hm => by
    rw [TL.form, Bool.and_eq_true] at hf
    rcases List.mem_cons.1 hm with h | h
    · rw [h]; exact T.req_size x hf.1
    · exact TL.req_size l hf.2 t h
end

/-! ### The document's way: candidates -/
def lastB (l : List ByteArray) : ByteArray := l.getLast?.getD ⟨#[]⟩
def cstep (st : List ByteArray × Bool) (x : Option ByteArray × ByteArray) : List ByteArray × Bool :=
  match x.1 with
  | none => (st.1 ++ [x.2], false)
  | some s => if st.2 = true ∧ (lastB st.1).size + s.size ≤ 64 then (st.1.dropLast ++ [lastB st.1 ++ s], true) else (st.1 ++ [s], true)
/-- The state of the one loop, by that of the other. -/
def CInv (a : ByteArray × ByteArray) (b : List ByteArray × Bool) : Prop :=
  if b.2 = true then ∃ L, b.1 = L ++ [a.2] ∧ a.1 = L.foldl keepB ⟨#[]⟩ else a.2 = ⟨#[]⟩ ∧ a.1 = b.1.foldl keepB ⟨#[]⟩
theorem keepB_nil (a : ByteArray) : keepB a ⟨#[]⟩ = a := by
  unfold keepB
  rw [if_neg (show ¬ a.size < (⟨#[]⟩ : ByteArray).size from Nat.not_lt_zero _)]
theorem cinv_step {a : ByteArray × ByteArray} {b : List ByteArray × Bool} (h : CInv a b) (x : Option ByteArray × ByteArray) (h64 : ∀ s, x.1 = some s → s.size ≤ 64) : CInv (lstep a x) (cstep b x) := by
  obtain ⟨best, row⟩ := a
  obtain ⟨L, op⟩ := b
  obtain ⟨o, r⟩ := x
  cases o with
  | none =>
    show CInv (keepB (keepB best row) r, ⟨#[]⟩) (L ++ [r], false)
    unfold CInv at h ⊢
    rw [if_neg (by simp)]
    refine ⟨rfl, ?_⟩
    simp only [List.foldl_append, List.foldl_cons, List.foldl_nil]
    cases op with
    | true =>
      rw [if_pos rfl] at h
      obtain ⟨L0, e1, e2⟩ := h
      simp only at e1 e2
      subst e1 e2
      simp
    | false =>
      rw [if_neg (by simp)] at h
      obtain ⟨e1, e2⟩ := h
      simp only at e1 e2
      subst e1 e2
      rw [keepB_nil]
  | some s =>
    have hs := h64 s rfl
    unfold lstep cstep
    simp only
    cases op with
    | true =>
      unfold CInv at h
      rw [if_pos rfl] at h
      obtain ⟨L0, e1, e2⟩ := h
      simp only at e1 e2
      subst e1 e2
      have hl : lastB (L0 ++ [row]) = row := by unfold lastB; simp
      rw [hl]
      by_cases hc : 64 < row.size + s.size
      · rw [if_pos hc, if_neg (by omega)]
        unfold CInv
        rw [if_pos rfl]
        exact ⟨L0 ++ [row], rfl, by simp⟩
      · rw [if_neg hc, if_pos ⟨rfl, by omega⟩]
        unfold CInv
        rw [if_pos rfl]
        exact ⟨L0, by simp, rfl⟩
    | false =>
      unfold CInv at h
      rw [if_neg (by simp)] at h
      obtain ⟨e1, e2⟩ := h
      simp only at e1 e2
      subst e1 e2
      have hz : (⟨#[]⟩ : ByteArray).size = 0 := rfl
      rw [if_neg (by omega), if_neg (by simp), empty_app]
      unfold CInv
      rw [if_pos rfl]
      exact ⟨L, rfl, rfl⟩
theorem cinv_fold : ∀ (l : List (Option ByteArray × ByteArray)) (a : ByteArray × ByteArray) (b : List ByteArray × Bool), CInv a b → (∀ x ∈ l, ∀ s, x.1 = some s → s.size ≤ 64) → CInv (l.foldl lstep a) (l.foldl cstep b)
  | [], a, b, h, _ => h
  | x :: l, a, b, h, hs => by
    rw [List.foldl_cons, List.foldl_cons]
    exact cinv_fold l _ _ (cinv_step h x (hs x (by simp))) (fun y hy => hs y (by simp [hy]))
theorem long_cands (l : List (Option ByteArray × ByteArray)) (hs : ∀ x ∈ l, ∀ s, x.1 = some s → s.size ≤ 64) : longP l = (l.foldl cstep ([], false)).1.foldl keepB ⟨#[]⟩ := by
  have h := cinv_fold l (⟨#[]⟩, ⟨#[]⟩) ([], false) (by unfold CInv; rw [if_neg (by simp)]; exact ⟨rfl, rfl⟩) hs
  unfold longP
  generalize l.foldl lstep (⟨#[]⟩, ⟨#[]⟩) = a at *
  generalize l.foldl cstep ([], false) = b at *
  obtain ⟨best, row⟩ := a
  obtain ⟨L, op⟩ := b
  unfold CInv at h
  cases op with
  | true =>
    rw [if_pos rfl] at h
    obtain ⟨L0, e1, e2⟩ := h
    simp only at e1 e2 ⊢
    subst e1 e2
    simp
  | false =>
    rw [if_neg (by simp)] at h
    obtain ⟨e1, e2⟩ := h
    simp only at e1 e2 ⊢
    subst e1 e2
    rw [keepB_nil]
end Go.Proofs.YtbbhobojghmkpaaDoor
