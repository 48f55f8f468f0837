/- A basic pattern in brackets is a group of it, its groups' numbers so many more, in plain Lean. -/
import Derived.Test.YtpkcklpjbeginaaDoorJoinP6
import Derived.Test.YtpkcklpjbeginaaDoorRightP7
set_option linter.unusedSimpArgs false
set_option linter.unusedVariables false
namespace Go.Proofs.YtpkcklpjbeginaaDoor
open Go.RowKit

section
variable {x p : ByteArray} {o : Nat}
theorem Emb.pair (h : Emb x p o 92) {i c d : Nat} (hi : i < p.size) (hd : d < 256) (hd2 : 92 ≠ d) : (pb x (o + i) = c ∧ pb x (o + i + 1) = d) ↔ (pb p i = c ∧ pb p (i + 1) = d) := by
  rw [h.at_ i hi, Nat.add_assoc, h.iff (i := i + 1) (by omega) hd2 hd]
theorem Emb.find2 (h : Emb x p o 92) {i : Nat} (hi : i ≤ p.size) (hf : Proofs.YtpkcklpjbeginaaDoor.find2 p 92 125 i < p.size) : Proofs.YtpkcklpjbeginaaDoor.find2 x 92 125 (o + i) = o + Proofs.YtpkcklpjbeginaaDoor.find2 p 92 125 i := by
  obtain ⟨h1, h2, h3, h4⟩ := find2_spec p 92 125 i hi
  have hz := h.size
  refine find2_eq (by omega) (by omega) (fun _ => (h.pair hf (by decide) (by decide)).2 (h3 hf)) fun k hk1 hk2 => ?_
  have := h4 (k - o) (by omega) (by omega)
  rw [show k = o + (k - o) by omega]
  exact fun hh => this ((h.pair (by omega) (by decide) (by decide)).1 hh)
theorem Emb.repB (h : Emb x p o 92) (h41 : pb x (o + p.size + 1) = 41) {i : Nat} (hi : i ≤ p.size) : (Proofs.YtpkcklpjbeginaaDoor.repB p i = .no → Proofs.YtpkcklpjbeginaaDoor.repB x (o + i) = .no) ∧ ∀ a b n, Proofs.YtpkcklpjbeginaaDoor.repB p i = .yes a b n → Proofs.YtpkcklpjbeginaaDoor.repB x (o + i) = .yes a b (o + n) := by
  have hz := h.size
  have q42 := h.iff (i := i) (c := 42) hi (by decide) (by decide)
  have q2 : (pb x (o + i) = 92 ∧ pb x (o + i + 1) = 123) ↔ (pb p i = 92 ∧ pb p (i + 1) = 123) := by
    by_cases hlt : i < p.size
    · exact h.pair hlt (by decide) (by decide)
    · have hip : i = p.size := by omega
      rw [hip, h41, pb_none (p := p) (by omega)]
      omega
  unfold Proofs.YtpkcklpjbeginaaDoor.repB
  by_cases c1 : pb p i = 42
  · rw [if_pos c1, if_pos (q42.2 c1)]
    exact ⟨fun e => (by cases e), fun a b n e => by injection e with e1 e2 e3; subst e1 e2 e3; rw [Nat.add_assoc]⟩
  rw [if_neg c1, if_neg (fun e => c1 (q42.1 e))]
  by_cases c4 : pb p i = 92 ∧ pb p (i + 1) = 123
  · rw [if_pos c4, if_pos (q2.2 c4)]
    have hi1 := pb_ins c4.2 (by decide)
    obtain ⟨h1, h2⟩ := find2_le p 92 125 (i + 2) (by omega)
    by_cases c5 : Proofs.YtpkcklpjbeginaaDoor.find2 p 92 125 (i + 2) = p.size
    · rw [if_pos c5]
      exact ⟨fun e => (by cases e), fun a b n e => (by cases e)⟩
    · have hf := h.find2 (i := i + 2) (by omega) (by omega)
      rw [← Nat.add_assoc] at hf
      rw [if_neg c5, hf, if_neg (by omega), Nat.add_assoc, h.cut h2]
      cases hcn : countsP (p.extract (i + 2) (Proofs.YtpkcklpjbeginaaDoor.find2 p 92 125 (i + 2))) with
      | none => exact ⟨fun e => (by cases e), fun a b n e => (by cases e)⟩
      | some ab => exact ⟨fun e => (by cases e), fun a b n e => by injection e with e1 e2 e3; rw [← e1, ← e2, ← e3, Nat.add_assoc]⟩
  · rw [if_neg c4, if_neg (fun e => c4 (q2.1 e))]
    exact ⟨fun _ => rfl, fun a b n e => (by cases e)⟩
variable {weak : Prop} {g0 : Nat} {dp dx : Option (Nat → Nat → PR)} {ic nl : Bool}
theorem groupB_sh (h : Emb x p o 92) (hd : DR weak p o g0 dp dx) (hf : DFine p dp) {i g j q : Nat} {t : T} (hi : i + 1 < p.size) (hq : g0 + q ≤ 998) (hg : groupP p 2 dp i g = .ok t j q) : Res weak o g0 t j q (groupP x 2 dx (o + i) (g0 + g)) := by
  have hz := h.size
  unfold groupP at hg
  cases dp with
  | none => cases hg
  | some fp =>
    have hfi := (hf fp rfl).1 (i + 2) (g + 1) (by omega)
    simp only at hg
    cases hr : fp (i + 2) (g + 1) with
    | bad c pl => rw [hr] at hg; cases hg
    | ok t1 j1 h1 =>
      rw [hr] at hg hfi
      simp only at hg
      split at hg
      · rename_i hj
        injection hg with e1 e2 e3
        simp only [PR.Fine] at hfi
        rcases hd fp rfl with ⟨fx, rfl, hx⟩ | ⟨hw, rfl⟩
        · have hx1 := hx (i + 2) (g + 1) t1 j1 h1 (by omega) hj (by omega) hr
          have hx2 : Res weak o g0 t1 j1 h1 (fx (o + i + 2) (g0 + g + 1)) := hx1
          unfold groupP
          rcases hx2 with ⟨t', ht', hu⟩ | ⟨hw, pl, hb⟩
          · simp only [ht', if_pos (show o + j1 < x.size by omega)]
            refine .inl ⟨grpT ((g0 + g + 1 : Nat) : Int) t', by rw [← e2, ← e3, Nat.add_assoc, Nat.add_assoc], ?_⟩
            rw [← e1]
            exact hu.grp (by omega)
          · exact .inr ⟨hw, pl, by simp only [hb]⟩
        · exact .inr ⟨hw, _, rfl⟩
      · cases hg
theorem atomB_sh (h : Emb x p o 92) (hd : DR weak p o g0 dp dx) (hf : DFine p dp) {star : Bool} {i g j q : Nat} {t : T} (hi : i < p.size) (hq : g0 + q ≤ 998) (hg : atomB p ic nl dp star i g = .ok t j q) : Res weak o g0 t j q (atomB x ic nl dx star (o + i) (g0 + g)) := by
  have hz := h.size
  have e0 := h.at_ i hi
  unfold atomB at hg ⊢
  rw [e0]
  by_cases c1 : pb p i = 46
  · rw [if_pos c1] at hg ⊢
    injection hg with e1 e2 e3
    exact .inl ⟨_, by rw [← e2, ← e3, Nat.add_assoc], by rw [← e1]; exact Up.byt _ _⟩
  rw [if_neg c1] at hg ⊢
  by_cases c2 : pb p i = 91
  · rw [if_pos c2] at hg ⊢
    obtain ⟨rfl, S, rfl, hs⟩ := h.set (g0 := g0) hg
    exact .inl ⟨_, hs, Up.byt _ _⟩
  rw [if_neg c2] at hg ⊢
  by_cases c4 : pb p i = 92
  · rw [if_pos c4] at hg ⊢
    split at hg
    · rename_i hc
      rw [Nat.add_assoc, h.at_ _ hc.1, if_pos ⟨by omega, hc.2⟩]
      by_cases k1 : pb p (i + 1) = 40
      · rw [if_pos k1] at hg ⊢
        exact groupB_sh h hd hf hc.1 hq hg
      rw [if_neg k1] at hg ⊢
      by_cases k2 : pb p (i + 1) = 41
      · rw [if_pos k2] at hg; cases hg
      rw [if_neg k2] at hg ⊢
      by_cases k3 : pb p (i + 1) = 123
      · rw [if_pos k3] at hg; cases hg
      rw [if_neg k3] at hg ⊢
      by_cases k4 : pb p (i + 1) = 125
      · rw [if_pos k4] at hg; cases hg
      rw [if_neg k4] at hg ⊢
      injection hg with e1 e2 e3
      exact .inl ⟨_, by rw [← e2, ← e3, Nat.add_assoc], by rw [← e1]; exact Up.byt _ _⟩
    · cases hg
  rw [if_neg c4] at hg ⊢
  by_cases c5 : pb p i = 42 ∧ star = false
  · rw [if_pos c5] at hg; cases hg
  rw [if_neg c5] at hg ⊢
  injection hg with e1 e2 e3
  exact .inl ⟨_, by rw [← e2, ← e3, Nat.add_assoc], by rw [← e1]; exact Up.byt _ _⟩
theorem pieceB_sh (h : Emb x p o 92) (h41 : pb x (o + p.size + 1) = 41) (hd : DR weak p o g0 dp dx) (hf : DFine p dp) {star : Bool} {i g j q : Nat} {t : T} (hi : i < p.size) (hq : g0 + q ≤ 998) (hg : pieceB p ic nl dp star i g = .ok t j q) : Res weak o g0 t j q (pieceB x ic nl dx star (o + i) (g0 + g)) := by
  have hz := h.size
  unfold pieceB at hg ⊢
  have hfa := atomB_fine (ic := ic) (nl := nl) hf star (g := g) hi
  cases ha : atomB p ic nl dp star i g with
  | bad c pl => rw [ha] at hg; cases hg
  | ok t1 j1 h1 =>
    rw [ha] at hg hfa
    simp only at hg
    simp only [PR.Fine] at hfa
    obtain ⟨hr1, hr2⟩ := h.repB h41 (i := j1) (by omega)
    have hle := fun a b n => repB_le (p := p) (i := j1) (a := a) (b := b) (n := n)
    unfold withRep at hg
    cases hr : Proofs.YtpkcklpjbeginaaDoor.repB p j1 with
    | no =>
      rw [hr] at hg
      simp only at hg
      injection hg with e1 e2 e3
      subst e1 e2 e3
      rcases atomB_sh h hd hf hi hq ha with ⟨t', ht', hu⟩ | ⟨hw, pl, hb⟩
      · refine .inl ⟨t', ?_, hu⟩
        simp only [ht', hr1 hr]
        rfl
      · exact .inr ⟨hw, pl, by simp only [hb]⟩
    | bad c => rw [hr] at hg; cases hg
    | yes a b n =>
      rw [hr] at hg
      simp only at hg
      split at hg
      · cases hg
      · rename_i hsz
        injection hg with e1 e2 e3
        subst e2 e3
        rcases atomB_sh h hd hf hi hq ha with ⟨t', ht', hu⟩ | ⟨hw, pl, hb⟩
        · have hur := hu.rep (hle a b n hr).1 (hle a b n hr).2
          refine .inl ⟨repT a b t', ?_, by rw [← e1]; exact hur⟩
          simp only [ht', hr2 a b n hr]
          unfold withRep
          simp only
          rw [if_neg (by rw [hur.full]; exact hsz)]
        · exact .inr ⟨hw, pl, by simp only [hb]⟩
theorem pattB_sh (h : Emb x p o 92) (h41 : pb x (o + p.size + 1) = 41) (hd : DR weak p o g0 dp dx) (hf : DFine p dp) {dep : Bool} : ∀ (n n' : Nat) (front star : Bool) (i g : Nat) (acc acc' : List T) (t : T) (j q : Nat), n ≤ n' → i ≤ p.size → g0 + q ≤ 998 → UpL g0 acc acc' →
    pattB p ic nl dp dep n front star i g acc = .ok t j q → Res weak o g0 t j q (pattB x ic nl dx true n' front star (o + i) (g0 + g) acc')
  | 0, _, front, star, i, g, acc, acc', t, j, q, _, _, _, _, e => by cases e
  | n + 1, 0, front, star, i, g, acc, acc', t, j, q, hn, _, _, _, e => by omega
  | n + 1, n' + 1, front, star, i, g, acc, acc', t, j, q, hn, hi, hq, hac, e => by
    have hz := h.size
    have hx2 := pb_ins h41 (by decide)
    rw [pattB] at e ⊢
    by_cases c1 : ¬ i < p.size ∨ (dep = true ∧ pb p i = 92 ∧ pb p (i + 1) = 41)
    · rw [if_pos c1] at e
      injection e with e1 e2 e3
      subst e1 e2 e3
      have hfin : Res weak o g0 (T.seq acc) i g (.ok (T.seq acc') (o + i) (g0 + g)) := .inl ⟨_, rfl, Up.seq hac⟩
      rw [if_pos]
      · exact hfin
      · refine .inr ⟨rfl, ?_⟩
        by_cases c2 : i < p.size
        · exact (h.pair c2 (by decide) (by decide)).2 (c1.resolve_left (fun hh => hh c2)).2
        · have hip : i = p.size := by omega
          rw [hip]
          exact ⟨h.stop, h41⟩
    rw [if_neg c1] at e
    have hip : i < p.size := Decidable.byContradiction fun hh => c1 (.inl hh)
    have e0 := h.at_ i hip
    by_cases cs : pb p i = 92 ∧ pb p (i + 1) = 41
    · have hb : atomB p ic nl dp star i g = .bad 1 i := by
        have hi1 := pb_ins cs.2 (by decide)
        unfold atomB
        rw [cs.1, cs.2, if_neg (by decide), if_neg (by decide), if_pos rfl, if_pos ⟨hi1, by kernel_rfl⟩, if_neg (by decide), if_pos rfl]
      have hb2 : pieceB p ic nl dp star i g = .bad 1 i := by unfold pieceB; rw [hb]
      rw [cs.1, if_neg (by omega), if_neg (by omega), hb2] at e
      cases e
    rw [if_neg (by
      rintro (hh | hh)
      · exact hh (by omega)
      · exact cs ((h.pair hip (by decide) (by decide)).1 hh.2)), e0]
    by_cases c2 : front = true ∧ pb p i = 94
    · rw [if_pos c2] at e ⊢
      rw [Nat.add_assoc]
      exact pattB_sh h h41 hd hf n n' false star (i + 1) g (acc ++ [begT]) (acc' ++ [begT]) t j q (by omega) (by omega) hq (hac.snoc (Up.beg _)) e
    rw [if_neg c2] at e ⊢
    have qd : (pb p i = 36 ∧ (o + i + 1 = x.size ∨ (pb x (o + i + 1) = 92 ∧ pb x (o + i + 2) = 41))) ↔ (pb p i = 36 ∧ (i + 1 = p.size ∨ (pb p (i + 1) = 92 ∧ pb p (i + 2) = 41))) := by
      refine and_congr_right fun _ => ?_
      by_cases c3 : i + 1 < p.size
      · have := h.pair (i := i + 1) (c := 92) (d := 41) c3 (by decide) (by decide)
        rw [show o + (i + 1) = o + i + 1 by omega, show o + i + 1 + 1 = o + i + 2 by omega, show i + 1 + 1 = i + 2 by omega] at this
        rw [this]
        constructor
        · rintro (hh | hh)
          · omega
          · exact .inr hh
        · rintro (hh | hh)
          · omega
          · exact .inr hh
      · have hip2 : i + 1 = p.size := by omega
        refine ⟨fun _ => .inl hip2, fun _ => .inr ⟨?_, ?_⟩⟩
        · rw [Nat.add_assoc, hip2]; exact h.stop
        · rw [show o + i + 2 = o + p.size + 1 by omega]; exact h41
    by_cases c3 : pb p i = 36 ∧ (i + 1 = p.size ∨ (pb p (i + 1) = 92 ∧ pb p (i + 2) = 41))
    · rw [if_pos c3] at e
      rw [if_pos (qd.2 c3), Nat.add_assoc]
      exact pattB_sh h h41 hd hf n n' false false (i + 1) g (acc ++ [endT]) (acc' ++ [endT]) t j q (by omega) (by omega) hq (hac.snoc (Up.end_ _)) e
    rw [if_neg c3] at e
    rw [if_neg (fun hh => c3 (qd.1 hh))]
    have hfp := pieceB_fine (ic := ic) (nl := nl) hf star (g := g) hip
    cases hp : pieceB p ic nl dp star i g with
    | bad c pl => rw [hp] at e; cases e
    | ok u k r =>
      rw [hp] at e hfp
      simp only at e
      simp only [PR.Fine] at hfp
      have hfr := pattB_fine (ic := ic) (nl := nl) (deep := dep) hf n false false k r (acc ++ [u]) t j q (by omega) e
      rcases pieceB_sh h h41 hd hf hip (by omega) hp with ⟨u', hu', hup⟩ | ⟨hw, pl, hb⟩
      · simp only [hu']
        exact pattB_sh h h41 hd hf n n' false false k r (acc ++ [u]) (acc' ++ [u']) t j q (by omega) (by omega) hq (hac.snoc hup) e
      · exact .inr ⟨hw, pl, by simp only [hb]⟩
theorem deepB_sh (h : Emb x p o 92) (h41 : pb x (o + p.size + 1) = 41) {dep : Bool} : ∀ (k k' i g : Nat) (t : T) (j q : Nat), (k ≤ k' ∨ weak) → i ≤ p.size → g0 + q ≤ 998 →
    deepB p ic nl k dep i g = .ok t j q → Res weak o g0 t j q (deepB x ic nl k' true (o + i) (g0 + g)) := by
  intro k
  induction k generalizing dep with
  | zero =>
    intro k' i g t j q hk hi hq e
    rw [deepB] at e
    cases k' <;> rw [deepB] <;> exact pattB_sh h h41 (fun fp hfp => by cases hfp) (fun fp hfp => by cases hfp) (p.size + 1) (x.size + 1) true true i g [] [] t j q (by have := h.size; omega) hi hq (UpL.nil _) e
  | succ k ih =>
    intro k' i g t j q hk hi hq e
    rw [deepB] at e
    cases k' with
    | zero =>
      rw [deepB]
      refine pattB_sh h h41 (fun fp hfp => .inr ⟨hk.resolve_left (by omega), rfl⟩) (deepB_dfine k) (p.size + 1) (x.size + 1) true true i g [] [] t j q (by have := h.size; omega) hi hq (UpL.nil _) e
    | succ k' =>
      rw [deepB]
      refine pattB_sh h h41 (fun fp hfp => .inl ⟨_, rfl, fun i g t j q hi hj hq e => ?_⟩) (deepB_dfine k) (p.size + 1) (x.size + 1) true true i g [] [] t j q (by have := h.size; omega) hi hq (UpL.nil _) e
      injection hfp with hfp
      subst hfp
      exact ih (dep := true) k' i g t j q (hk.imp (fun h => by omega) id) hi hq e
end
section
variable {x p : ByteArray} {ic nl : Bool}
theorem parseB_in {t : T} {j n : Nat} (h : parseB p ic nl = .ok t j n) : deepB p ic nl 32 false 0 0 = .ok t p.size n ∧ p.size ≤ 1024 ∧ 2 * n ≤ p.size ∧ t.fullSize ≤ 2000 := by
  unfold parseB at h
  split at h
  · cases h
  · rename_i hs
    cases hd : deepB p ic nl 32 false 0 0 with
    | bad c pl => rw [hd] at h; cases h
    | ok u k r =>
      rw [hd] at h
      simp only [wholeP] at h
      split at h
      · cases h
      · rename_i hz
        injection h with e1 e2 e3
        subst e1 e2 e3
        have h1 := deepB_fine (ic := ic) (nl := nl) (p := p) 32 false 0 0 (Nat.zero_le _)
        have h2 := deepB_gd (ic := ic) (nl := nl) (p := p) (by omega) 32 false 0 0 0 rfl (Nat.zero_le _) (by omega)
        have h3 : ¬ k < p.size := by
          rw [deepB] at hd
          exact (pattB_end _ _ _ _ _ _ _ _ _ hd).resolve_right (fun hh => by cases hh.1)
        rw [hd] at h1 h2
        simp only [PR.Fine] at h1
        simp only [PR.Gd] at h2
        have : k = p.size := by omega
        subst this
        exact ⟨rfl, by omega, by have := h2.2; omega, by omega⟩
/-- A pattern in brackets. -/
theorem join_groupB {t : T} {j n : Nat} (h : parseB p ic nl = .ok t j n) (hx : Emb x p 2 92) (h41 : pb x (2 + p.size + 1) = 41) (h0 : pb x 0 = 92) (h1 : pb x 1 = 40) (hs : x.size = p.size + 4) (hs2 : x.size ≤ 1024) :
    match parseB x ic nl with
    | .bad c _ => c = 9 ∨ c = 10
    | .ok t' _ k => k = n + 1 ∧ t' = grpT 1 (t.raise 1) := by
  obtain ⟨hd, hp, hn, hf⟩ := parseB_in h
  have hr := deepB_sh (weak := True) (ic := ic) (nl := nl) (g0 := 1) hx h41 (dep := false) 32 31 0 0 t p.size n (.inr trivial) (Nat.zero_le _) (by omega) hd
  have hr2 : Res True 2 1 t p.size n (deepB x ic nl 31 true 2 1) := hr
  have hG : (∃ t', groupP x 2 (some (deepB x ic nl 31 true)) 0 0 = .ok (grpT 1 t') (p.size + 4) (n + 1) ∧ Up 1 t t') ∨ ∃ pl, groupP x 2 (some (deepB x ic nl 31 true)) 0 0 = .bad 10 pl := by
    rcases hr2 with ⟨t', ht', hu⟩ | ⟨_, pl, hb⟩
    · refine .inl ⟨t', ?_, hu⟩
      unfold groupP
      simp only [Nat.zero_add, ht']
      rw [if_pos (by omega)]
      congr 1 <;> omega
    · refine .inr ⟨pl, ?_⟩
      unfold groupP
      simp only [Nat.zero_add, hb]
  have hat : atomB x ic nl (some (deepB x ic nl 31 true)) true 0 0 = groupP x 2 (some (deepB x ic nl 31 true)) 0 0 := by
    unfold atomB
    rw [h0, show pb x (0 + 1) = 40 from h1, if_neg (by decide), if_neg (by decide), if_pos rfl, if_pos ⟨by omega, by kernel_rfl⟩, if_pos rfl]
  have hrn : repB x (p.size + 4) = .no := by
    unfold repB
    rw [pb_none (by omega)]; rfl
  have hxs : 0 < x.size := by omega
  have hbr : pattB x ic nl (some (deepB x ic nl 31 true)) false (x.size + 1) true true 0 0 [] = (match pieceB x ic nl (some (deepB x ic nl 31 true)) true 0 0 with
      | .bad c pl => .bad c pl
      | .ok t j h => pattB x ic nl (some (deepB x ic nl 31 true)) false x.size false false j h ([] ++ [t])) := by
    rw [pattB, h0, if_neg (by rintro (hh | hh); exact hh hxs; cases hh.1), if_neg (by omega), if_neg (by omega)]; rfl
  have hstop : ∀ (f g : Nat) (acc : List T), 0 < f → pattB x ic nl (some (deepB x ic nl 31 true)) false f false false (p.size + 4) g acc = .ok (T.seq acc) (p.size + 4) g := fun f g acc hf => by
    cases f with
    | zero => omega
    | succ f => rw [pattB, if_pos (.inl (by omega))]
  unfold parseB
  rw [if_neg (by omega), deepB, hbr]
  unfold pieceB
  rw [hat]
  rcases hG with ⟨t', ht', hu⟩ | ⟨pl, hb⟩
  · rw [ht']
    simp only [hrn, withRep]
    rw [hstop _ _ _ hxs]
    have hw : ∀ u : T, wholeP x (.ok u (p.size + 4) (n + 1)) = if 2000 < u.fullSize then .bad 9 x.size else .ok u (p.size + 4) (n + 1) := fun u => rfl
    rw [show T.seq ([] ++ [grpT 1 t']) = grpT 1 t' from rfl, hw]
    by_cases hbig : 2000 < (grpT 1 t').fullSize
    · rw [if_pos hbig]
      exact .inl rfl
    · rw [if_neg hbig]
      exact ⟨rfl, by rw [← hu.r]; rfl⟩
  · rw [hb]
    exact .inr rfl
end
end Go.Proofs.YtpkcklpjbeginaaDoor
