/- NeedLaw: need, in plain Lean: what the one text, the needed text and the first bytes say of the pieces that a right tree takes.
PassLaw: need.Next, in plain Lean: no piece begins at a place that is passed over. -/
import Derived.Test.YtbbhobojghmkpaaDoorNeedP
import Derived.Test.YtbbhobojghmkpaaDoorNext20
import Derived.Test.YtbbhobojghmkpaaDoorGlu
import Derived.Test.YtbbhobojghmkpaaDoorPlaces
import Derived.Test.YtbbhobojghmkpaaDoorAlgLaw
set_option linter.unusedSimpArgs false
set_option linter.unusedVariables false
set_option linter.unnecessarySimpa false

/-! ## NeedLaw -/
namespace Go.Proofs.YtbbhobojghmkpaaDoor
open Go.RowKit

/-- The bytes from a place to another one. -/
def pc (L : List UInt8) (i j : Nat) : List UInt8 := (L.drop i).take (j - i)
def Sc.bytes (x : Sc) : List UInt8 := x.text.data.toList
theorem Sc.bytes_len (x : Sc) : x.bytes.length = x.len := by show x.text.data.toList.length = x.text.data.size; exact Array.length_toList
theorem pc_self (L : List UInt8) (i : Nat) : pc L i i = [] := by simp [pc]
theorem pc_split {L : List UInt8} {i m j : Nat} (h1 : i ≤ m) (h2 : m ≤ j) : pc L i j = pc L i m ++ pc L m j := by
  unfold pc
  rw [show j - i = (m - i) + (j - m) by omega, List.take_add, List.drop_drop, show i + (m - i) = m by omega]
theorem pc_one {L : List UInt8} {i : Nat} (h : i < L.length) : pc L i (i + 1) = [L[i]] := by
  unfold pc
  rw [show i + 1 - i = 1 by omega, List.drop_eq_getElem_cons h]
  rfl
theorem pc_len {L : List UInt8} {i j : Nat} (h : j ≤ L.length) : (pc L i j).length = j - i := by
  unfold pc
  rw [List.length_take, List.length_drop]
  omega
theorem repeatL_nil (k : Nat) : Lib.repeatL ([] : List UInt8) k = [] := by
  apply List.eq_nil_of_length_eq_zero
  rw [Lib.repeatL_length]
  simp
theorem iter_text {R : Nat → Nat → Prop} {L s : List UInt8} (hf : ∀ i j, R i j → i ≤ j) (h : ∀ i j, R i j → pc L i j = s) : ∀ k i j, Iter R k i j → i ≤ j ∧ pc L i j = Lib.repeatL s k
  | 0, i, j, e => by obtain rfl := e; exact ⟨Nat.le_refl _, by rw [pc_self]; rfl⟩
  | k + 1, i, j, ⟨m, h1, h2⟩ => by
    obtain ⟨a, b⟩ := iter_text hf h k i m h1
    have c := hf m j h2
    refine ⟨by omega, ?_⟩
    rw [pc_split a c, b, h m j h2, Lib.repeatL_add s k 1]
    simp [Lib.repeatL]
theorem cntb_zero {f : Nat → Bool} : ∀ n, cntb f n = 0 → ∀ b, b < n → f b = false
  | 0, _, b, hb => by omega
  | n + 1, h, b, hb => by
    rw [cntb] at h
    by_cases e : b = n
    · subst e
      cases hf : f b with
      | false => rfl
      | true => rw [hf] at h; simp at h
    · exact cntb_zero n (by omega) b (by omega)
theorem cntb_uniq {f : Nat → Bool} : ∀ n, cntb f n = 1 → ∀ a b, a < n → b < n → f a = true → f b = true → a = b
  | 0, _, a, b, ha, _, _, _ => by omega
  | n + 1, h, a, b, ha, hb, fa, fb => by
    rw [cntb] at h
    cases hf : f n with
    | true =>
      rw [hf] at h
      have h0 : cntb f n = 0 := by simp at h; omega
      have z := cntb_zero n h0
      have h1 : a = n := by
        by_cases e : a = n
        · exact e
        · rw [z a (by omega)] at fa; cases fa
      have h2 : b = n := by
        by_cases e : b = n
        · exact e
        · rw [z b (by omega)] at fb; cases fb
      omega
    | false =>
      rw [hf] at h
      have ha' : a ≠ n := fun e => by rw [e, hf] at fa; cases fa
      have hb' : b ≠ n := fun e => by rw [e, hf] at fb; cases fb
      exact cntb_uniq n (by simpa using h) a b (by omega) (by omega) fa fb
theorem Hd.first_of {h : Hd} {b : Nat} (hc : h.count = 1) (hb : b < 256) (hh : h.has b = true) : h.first = b := by
  unfold Hd.first
  cases hf : (List.range 256).find? fun b => h.has b with
  | none =>
    have := List.find?_eq_none.1 hf b (List.mem_range.2 hb)
    simp [hh] at this
  | some a =>
    have h1 : h.has a = true := by simpa using List.find?_some hf
    have h2 := List.mem_range.1 (List.mem_of_find?_eq_some hf)
    exact cntb_uniq (f := fun b => h.has b) 256 hc a b h2 hb h1 hh
section
variable {x : Sc}
theorem seq_piece : ∀ (l : List T) (acc s : ByteArray) (i j : Nat), (∀ t ∈ l, ∀ s i j, t.only = some s → t.R x i j → pc x.bytes i j = s.data.toList) → seqO acc (TL.onlys l) = some s → TL.Rseq x l i j → acc.data.toList ++ pc x.bytes i j = s.data.toList
  | [], acc, s, i, j, _, e, hr => by
    obtain rfl := Option.some.inj e
    obtain rfl : i = j := hr
    rw [pc_self, List.append_nil]
  | t :: l, acc, s, i, j, H, e, ⟨m, h1, h2⟩ => by
    rw [TL.onlys] at e
    cases ho : t.only with
    | none => rw [ho] at e; cases e
    | some u =>
      rw [ho, seqO] at e
      split at e
      · cases e
      · have h3 := seq_piece l _ s m j (fun t ht => H t (by simp [ht])) e h2
        rw [pc_split (T.R_fwd x t i m h1).1 (TL.Rseq_fwd x l m j h2).1, H t (by simp) u i m ho h1, ← h3]
        simp
theorem alt_only : ∀ (l : List T) (s : ByteArray), altO (TL.onlys l) = some s → ∀ t ∈ l, t.only = some s
  | [], _, _, t, ht => by cases ht
  | t :: l, s, e, v, hv => by
    rw [TL.onlys] at e
    cases ho : t.only with
    | none => rw [ho] at e; cases e
    | some u =>
      rw [ho, altO] at e
      split at e
      · rename_i hall
        obtain rfl := Option.some.inj e
        rcases List.mem_cons.1 hv with rfl | hv
        · exact ho
        · rw [TL.onlys_map] at hall
          have := List.all_eq_true.1 hall v.only (List.mem_map.2 ⟨v, hv, rfl⟩)
          simpa using this
      · cases e
theorem alt_piece : ∀ (l : List T) (s : ByteArray) (i j : Nat), (∀ t ∈ l, t.R x i j → pc x.bytes i j = s.data.toList) → TL.Ralt x l i j → pc x.bytes i j = s.data.toList
  | [], s, i, j, _, h => by cases h
  | t :: l, s, i, j, H, h => by
    rcases h with h | h
    · exact H t (by simp) h
    · exact alt_piece l s i j (fun t ht => H t (by simp [ht])) h
end
mutual
/-- Each piece of a tree that takes one text alone is that text. -/
theorem T.only_piece (x : Sc) : ∀ (t : T) (s : ByteArray) (i j : Nat), t.form = true → t.only = some s → t.R x i j → pc x.bytes i j = s.data.toList
  | .mk h l, s, i, j, hf, ho, hr => by
    have hk := T.form_kind hf
    have H := TL.only_piece x l (T.form_sub hf)
    rw [T.only] at ho
    simp only [T.hd, T.subs] at hk
    simp only [T.R] at hr
    unfold Hd.only at ho
    rcases hk with k | k | k | k | k | k | ⟨k, kl⟩ | ⟨k, kl⟩
    · simp [k] at ho hr
      subst ho hr
      exact pc_self _ _
    · simp [k] at ho hr
      subst ho
      rw [hr.1]
      exact pc_self _ _
    · simp [k] at ho hr
      subst ho
      rw [hr.1]
      exact pc_self _ _
    · simp [k] at ho hr
      obtain ⟨hc, rfl⟩ := ho
      obtain ⟨rfl, hi, hb⟩ := hr
      have hi' : i < x.bytes.length := by rw [x.bytes_len]; exact hi
      have e : (x.text[i]?.getD 0) = x.bytes[i] ∨ True := .inr trivial
      have hb' : h.has (x.bytes[i]).toNat = true := by
        have e : x.text.data.toList.getD i 0 = x.bytes[i] := by
          rw [List.getD_eq_getElem?_getD, show x.text.data.toList = x.bytes from rfl, List.getElem?_eq_getElem hi']
          rfl
        rw [← e]
        simpa using hb
      rw [pc_one hi', Hd.first_of hc (UInt8.toNat_lt _) hb']
      simp
    · simp [k] at ho hr
      have := seq_piece l _ s i j H ho hr
      simpa using this
    · simp [k] at ho hr
      exact alt_piece l s i j (fun t ht hr => H t ht s i j (alt_only l s ho t ht) hr) hr
    · obtain ⟨u, rfl⟩ := List.length_eq_one_iff.1 kl
      simp [k] at ho hr
      exact H u (by simp) s i j ho hr
    · obtain ⟨u, rfl⟩ := List.length_eq_one_iff.1 kl
      have hmin := T.form_min hf k
      simp only [k] at ho hr
      rw [if_neg (by decide), if_neg (by decide), if_pos trivial] at ho
      rw [if_neg (by decide), if_neg (by decide), if_neg (by decide), if_neg (by decide), if_neg (by decide), if_neg (by decide), if_neg (by decide)] at hr
      obtain ⟨n, h1, h2, hit⟩ := hr
      by_cases hm0 : h.max = 0
      · rw [if_pos hm0] at ho
        obtain rfl := Option.some.inj ho
        obtain rfl : n = 0 := by omega
        obtain rfl : i = j := hit
        exact pc_self _ _
      · rw [if_neg hm0] at ho
        simp only [TL.onlys, hd1] at ho
        cases hu : u.only with
        | none => rw [hu] at ho; cases ho
        | some v =>
          rw [hu, repO] at ho
          have hi := (iter_text (L := x.bytes) (s := v.data.toList) (fun i j h => (T.R_fwd x u i j h).1) (fun i j h => H u (by simp) v i j hu h) n i j hit).2
          split at ho
          · rename_i hz
            obtain rfl := Option.some.inj ho
            rw [hi, show v.data.toList = [] by rw [size_zero hz], repeatL_nil]
          · split at ho
            · cases ho
            · rename_i hmm
              obtain rfl := Option.some.inj ho
              have : n = h.min.toNat := by omega
              rw [hi, this]
              simp [rept]
theorem TL.only_piece (x : Sc) : ∀ (l : List T), TL.form l = true → ∀ t ∈ l, ∀ (s : ByteArray) (i j : Nat), t.only = some s → t.R x i j → pc x.bytes i j = s.data.toList
  | [], _, t, hm, _, _, _, _, _ => by cases hm
  | y :: l, hf, t, hm, s, i, j, e, hr => by
    rw [TL.form, Bool.and_eq_true] at hf
    rcases List.mem_cons.1 hm with h | h
    · rw [h] at e hr; exact T.only_piece x y s i j hf.1 e hr
    · exact TL.only_piece x l hf.2 t h s i j e hr
end
theorem keepB_is {P : ByteArray → Prop} {a b : ByteArray} (h1 : P a) (h2 : P b) : P (keepB a b) := by unfold keepB; split <;> assumption
theorem long_piece {x : Sc} (i : Nat) : ∀ (l : List T) (st : ByteArray × ByteArray) (m j : Nat), i ≤ m → (∀ t ∈ l, (∀ s i j, t.only = some s → t.R x i j → pc x.bytes i j = s.data.toList) ∧ ∀ i j, t.R x i j → t.req.data.toList <:+: pc x.bytes i j) →
    st.1.data.toList <:+: pc x.bytes i m → st.2.data.toList <:+ pc x.bytes i m → TL.Rseq x l m j → ((TL.reqs l).foldl lstep st).1.data.toList <:+: pc x.bytes i j ∧ ((TL.reqs l).foldl lstep st).2.data.toList <:+ pc x.bytes i j
  | [], st, m, j, _, _, h1, h2, hr => by
    obtain rfl : m = j := hr
    exact ⟨h1, h2⟩
  | t :: l, st, m, j, him, H, h1, h2, ⟨q, hq, hr⟩ => by
    have hmq := (T.R_fwd x t m q hq).1
    have hs := pc_split (L := x.bytes) him hmq
    rw [TL.reqs, List.foldl_cons]
    have a1 : ∀ b : ByteArray, b.data.toList <:+: pc x.bytes i m → b.data.toList <:+: pc x.bytes i q := fun b hb => by
      rw [hs]; exact hb.trans (List.prefix_append _ _).isInfix
    have a2 : ∀ b : ByteArray, b.data.toList <:+: pc x.bytes m q → b.data.toList <:+: pc x.bytes i q := fun b hb => by
      rw [hs]; exact hb.trans (List.suffix_append _ _).isInfix
    refine long_piece i l _ q j (by omega) (fun t ht => H t (by simp [ht])) ?_ ?_ hr
    · unfold lstep
      cases ho : t.only with
      | none => exact keepB_is (P := fun b => b.data.toList <:+: pc x.bytes i q) (keepB_is (P := fun b => b.data.toList <:+: pc x.bytes i q) (a1 _ h1) (a1 _ h2.isInfix)) (a2 _ ((H t (by simp)).2 m q hq))
      | some s =>
        simp only
        split
        · exact keepB_is (P := fun b => b.data.toList <:+: pc x.bytes i q) (a1 _ h1) (a1 _ h2.isInfix)
        · exact a1 _ h1
    · unfold lstep
      cases ho : t.only with
      | none => exact List.nil_suffix
      | some s =>
        have hp := (H t (by simp)).1 s m q ho hq
        simp only
        split
        · rw [hs, hp]; exact List.suffix_append _ _
        · obtain ⟨z, hz⟩ := h2
          rw [hs, hp, ← hz]
          exact ⟨z, by simp⟩
mutual
/-- The needed text is in each piece. -/
theorem T.req_piece (x : Sc) : ∀ (t : T) (i j : Nat), t.form = true → t.R x i j → t.req.data.toList <:+: pc x.bytes i j
  | .mk h l, i, j, hf, hr => by
    have hk := T.form_kind hf
    have H := TL.req_piece x l (T.form_sub hf)
    have hop := T.only_piece x (.mk h l)
    rw [T.req]
    unfold Hd.req
    cases ho : T.only (.mk h l) with
    | some s => rw [hop s i j hf ho hr]; exact List.infix_refl _
    | none =>
      simp only [T.hd, T.subs] at hk
      simp only [T.R] at hr
      rcases hk with k | k | k | k | k | k | ⟨k, kl⟩ | ⟨k, kl⟩
      · simp [k]
      · simp [k]
      · simp [k]
      · simp [k]
      · simp only [k] at hr ⊢
        rw [if_neg (by decide), if_neg (by decide), if_pos trivial]
        rw [if_neg (by decide), if_neg (by decide), if_neg (by decide), if_neg (by decide), if_pos trivial] at hr
        have HO := TL.only_piece x l (T.form_sub hf)
        have h0 := long_piece (x := x) i l (⟨#[]⟩, ⟨#[]⟩) i j (Nat.le_refl _) (fun t ht => ⟨HO t ht, H t ht⟩) List.nil_infix List.nil_suffix hr
        unfold longP
        exact keepB_is (P := fun b => b.data.toList <:+: pc x.bytes i j) h0.1 h0.2.isInfix
      · simp [k]
      · obtain ⟨u, rfl⟩ := List.length_eq_one_iff.1 kl
        simp [k] at hr ⊢
        exact H u (by simp) i j hr
      · obtain ⟨u, rfl⟩ := List.length_eq_one_iff.1 kl
        have hmin := T.form_min hf k
        simp only [k] at hr ⊢
        rw [if_pos trivial]
        rw [if_neg (by decide), if_neg (by decide), if_neg (by decide), if_neg (by decide), if_neg (by decide), if_neg (by decide), if_neg (by decide)] at hr
        obtain ⟨n, h1, h2, hit⟩ := hr
        split
        · exact List.nil_infix
        · obtain ⟨n', rfl⟩ : ∃ n', n = n' + 1 := ⟨n - 1, by omega⟩
          obtain ⟨m, g1, g2⟩ := Iter.front.1 hit
          have hm : m ≤ j := (Iter.fwd (T.R_fwd x u) n' m j g2).1
          rw [pc_split (T.R_fwd x u i m g1).1 hm]
          exact (H u (by simp) i m g1).trans (List.prefix_append _ _).isInfix
theorem TL.req_piece (x : Sc) : ∀ (l : List T), TL.form l = true → ∀ t ∈ l, ∀ (i j : Nat), t.R x i j → t.req.data.toList <:+: pc x.bytes i j
  | [], _, t, hm, _, _, _ => by cases hm
  | y :: l, hf, t, hm, i, j, hr => by
    rw [TL.form, Bool.and_eq_true] at hf
    rcases List.mem_cons.1 hm with h | h
    · rw [h] at hr ⊢; exact T.req_piece x y i j hf.1 hr
    · exact TL.req_piece x l hf.2 t h i j hr
end
theorem firstsF_mono (sets : List Se) : ∀ (l : List Ed) (S : Nat → Bool) (b : Nat), S b = true → firstsF sets l S b = true
  | [], S, b, h => h
  | e :: r, S, b, h => firstsF_mono sets r _ b (by simp [h])
theorem firstsF_mem (sets : List Se) : ∀ (l : List Ed) (S : Nat → Bool) (b : Nat) (e : Ed), e ∈ l → seSet (sets.getD e.1.toNat (0, 0, 0, 0)) b = true → firstsF sets l S b = true
  | [], _, _, _, h, _ => by cases h
  | d :: r, S, b, e, h, hb => by
    rw [firstsF]
    rcases List.mem_cons.1 h with rfl | h
    · exact firstsF_mono sets r _ b (by simp only [hb, Bool.or_true])
    · exact firstsF_mem sets r _ b e h hb
theorem Run.fwd {m : Nat → Nat} {ok : Nat → Nat → Prop} {a b : Nat} {M : Nat → Nat → Nat} {i p j q : Nat} (h : Run m ok a b M i p j q) : i ≤ j := by
  induction h with
  | here => exact Nat.le_refl _
  | step _ _ _ _ ih => omega
/-- A piece that is empty says so; any other begins with a first byte. -/
theorem T.first_piece {x : Sc} (hm : ∀ i, x.mark i < 4) {t : T} (hc : t.check = none) {i j : Nat} (h : t.R x i j) :
    (i = j → t.mayNull = true) ∧ (i < j → i < x.len ∧ t.firsts (x.text.data.toList.getD i 0).toNat = true) := by
  have hf := (T.check_none hc).1
  have hl := (T.laid_leads x hm t hf i j).2 h
  unfold T.mayNull T.firsts
  rw [hc]
  simp only
  rcases hl with ⟨e, hb⟩ | ⟨p, q, hp, hb, hok, hrun, _⟩
  · refine ⟨fun _ => ?_, fun h => by omega⟩
    have := bit_ne hb
    show (!decide (((t.exp.posOf.1.null : Nat) : Int) = 0)) = true
    have h2 : ¬ ((t.exp.posOf.1.null : Nat) : Int) = 0 := by omega
    rw [decide_eq_false h2]
    rfl
  · have hij := hrun.fwd
    refine ⟨fun e => by omega, fun _ => ⟨hok.1, ?_⟩⟩
    have h2 := hok.2
    have hlt : p < t.exp.posOf.2.S.length := hp.2
    refine firstsF_mem _ _ _ _ (((p : Nat) : Int), ((t.exp.posOf.1.fst p : Nat) : Int)) ?_ ?_
    · show _ ∈ edgesOf _ _
      unfold edgesOf
      simp only [List.mem_map, List.mem_filter, List.mem_range, bne_iff_ne]
      exact ⟨p, ⟨hlt, bit_ne hb⟩, rfl⟩
    · show seSet (t.exp.posOf.2.S.getD (Int.toNat (p : Int)) (0, 0, 0, 0)) _ = true
      unfold seHas at h2
      rw [List.getElem?_eq_getElem hlt] at h2
      rw [Int.toNat_natCast, List.getD_eq_getElem?_getD, List.getElem?_eq_getElem hlt]
      exact h2
end Go.Proofs.YtbbhobojghmkpaaDoor

/-! ## PassLaw -/
namespace Go.Proofs.YtbbhobojghmkpaaDoor
open Go.RowKit

theorem occ_of_infix {L req : List UInt8} {i j : Nat} (hi : i ≤ L.length) (h : req <:+: pc L i j) : ∃ k, i ≤ k ∧ k + req.length ≤ L.length ∧ Lib.occAt L req k = true := by
  obtain ⟨a, b, hab⟩ := h
  have hp : a ++ (req ++ b) <+: L.drop i := by
    rw [← List.append_assoc, hab]
    exact List.take_prefix _ _
  obtain ⟨c, hc⟩ := hp
  have hl := congrArg List.length hc
  simp only [List.length_append, List.length_drop] at hl
  refine ⟨i + a.length, by omega, by omega, ?_⟩
  unfold Lib.occAt
  rw [← List.drop_drop, ← hc, List.append_assoc, List.drop_left, List.isPrefixOf_iff_prefix, List.append_assoc]
  exact List.prefix_append _ _
theorem lastIndex_ge {L req : List UInt8} {k : Nat} (hk : k + req.length ≤ L.length) (ho : Lib.occAt L req k = true) : (k : Int) ≤ Lib.lastIndex L req := by
  unfold Lib.lastIndex
  rw [if_pos (by omega)]
  rcases Lib.lastOcc_spec L req (L.length - req.length + 1) with ⟨_, hn⟩ | ⟨i, hi, e, _, hn⟩
  · have := hn k (by omega)
    rw [ho] at this
    cases this
  · rw [e]
    by_cases h : i < k
    · have := hn k h (by omega)
      rw [ho] at this
      cases this
    · omega
/-- Where a piece begins, the needed text comes, and it may begin. -/
theorem T.begins {x : Sc} (hm : ∀ i, x.mark i < 4) {t : T} (hc : t.check = none) {i j : Nat} (hi : i ≤ x.len) (h : t.R x i j) :
    (i : Int) ≤ Lib.lastIndex x.text.data.toList t.req.data.toList ∧ mayAt x.text t.firsts t.mayNull i = true := by
  have hf := (T.check_none hc).1
  refine ⟨?_, ?_⟩
  · obtain ⟨k, h1, h2, h3⟩ := occ_of_infix (by rw [x.bytes_len]; exact hi) (T.req_piece x t i j hf h)
    have := lastIndex_ge h2 h3
    show (i : Int) ≤ Lib.lastIndex x.bytes _
    omega
  · obtain ⟨a, b⟩ := T.first_piece hm hc h
    have hij := (T.R_fwd x t i j h).1
    unfold mayAt
    by_cases e : i = j
    · rw [a e]; rfl
    · obtain ⟨b1, b2⟩ := b (by omega)
      have b1' : i < x.text.size := b1
      rw [dif_pos b1']
      have e2 : x.text.data.toList.getD i 0 = x.text[i]'b1' := by
        rw [List.getD_eq_getElem?_getD, List.getElem?_eq_getElem (by rw [Array.length_toList]; exact b1')]
        rfl
      rw [e2] at b2
      rw [b2, Bool.or_true]
/-- No piece begins there: the list of the ends is empty. -/
theorem ends_none {R : Nat → Nat → Prop} {n i : Nat} {l : List Int} (h : EndsOf R n i l) (hn : n ≤ 63) (hR : ∀ j, ¬ R i j) : l = [] := by
  cases l with
  | nil => rfl
  | cons z r =>
    obtain ⟨j, e, _⟩ := h.nat (x := z) (by simp)
    exact absurd ((h.mem hn j).1 (by rw [← e]; simp)) (hR j)
end Go.Proofs.YtbbhobojghmkpaaDoor
