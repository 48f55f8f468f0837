/- What reading a basic pattern yields is a right, tidy tree without alternatives, its groups numbered from the left; a fault's place is one of the pattern's, in plain Lean. -/
import Derived.Test.YtpkcklpjbeginaaDoorRightP6
import Derived.Test.YtpkcklpjbeginaaDoorBreE
set_option linter.unusedSimpArgs false
set_option linter.unusedVariables false
namespace Go.Proofs.YtpkcklpjbeginaaDoor
open Go.RowKit

theorem atomB_gd {p : ByteArray} {ic nl : Bool} {deeper : Option (Nat → Nat → PR)} {dd : Nat} {D : Int} (hdd : dd ≤ 32) (hD : 0 ≤ D) (hd : DGd true p deeper dd D) (hp : p.size ≤ 1024) (star : Bool) {i g : Nat} (hi : i < p.size) (hg : 2 * g ≤ i + dd) : (atomB p ic nl deeper star i g).Gd true p g dd (D + 1) ∧ ∀ t j h, atomB p ic nl deeper star i g = .ok t j h → t.hd.kind ≠ 8 := by
  have h1 : ∀ (S : Nat → Bool) (n : Nat), i ≤ n → (PR.ok (bytT S) n g).Gd true p g dd (D + 1) ∧ ∀ t j h, PR.ok (bytT S) n g = .ok t j h → t.hd.kind ≠ 8 := fun S n hn =>
    ⟨⟨(Gd.byt true S g).mono (by omega), by omega⟩, fun t j h e => by injection e with e; rw [← e]; exact (by first | (show (2 : Int) ≠ 8; decide) | (show (7 : Int) ≠ 8; decide))⟩
  have hb : ∀ c : Nat, (PR.bad c (i : Int)).Gd true p g dd (D + 1) ∧ ∀ t j h, PR.bad c (i : Int) = .ok t j h → t.hd.kind ≠ 8 := fun c => ⟨⟨by omega, by omega⟩, fun t j h e => by cases e⟩
  unfold atomB
  split
  · exact h1 _ _ (by omega)
  · split
    · have h2 := setAt_gd true p ic nl i g dd hi hg
      refine ⟨?_, h2.2⟩
      cases hs : setAt p ic nl i g with
      | bad c pl => rw [hs] at h2; exact h2.1
      | ok t j h => rw [hs] at h2; exact ⟨Gd.mono h2.1.1 (by omega), h2.1.2⟩
    · split
      · split
        · split
          · exact groupP_gd hdd hD hd hp (by decide) (by omega) hg
          · split
            · exact hb _
            · split
              · exact hb _
              · split
                · exact hb _
                · exact h1 _ _ (by omega)
        · exact hb _
      · split
        · exact hb _
        · exact h1 _ _ (by omega)
theorem pieceB_gd {p : ByteArray} {ic nl : Bool} {deeper : Option (Nat → Nat → PR)} {dd : Nat} {D : Int} (hdd : dd ≤ 32) (hD : 0 ≤ D) (hd : DGd true p deeper dd D) (hf : DFine p deeper) (hp : p.size ≤ 1024) (star : Bool) {i g : Nat} (hi : i < p.size) (hg : 2 * g ≤ i + dd) : (pieceB p ic nl deeper star i g).Gd true p g dd (D + 3) := by
  unfold pieceB
  have h := atomB_gd (ic := ic) (nl := nl) hdd hD hd hp star hi hg
  have hfi := atomB_fine (ic := ic) (nl := nl) hf star (g := g) hi
  cases ha : atomB p ic nl deeper star i g with
  | bad c pl => rw [ha] at h; exact h.1
  | ok t j q =>
    rw [ha] at h hfi
    simp only [PR.Fine] at hfi
    have := withRep_gd (p := p) (r := repB p j) (by omega) (fun a b n e => repB_next e) (fun a b n e => repB_le e) h.1.1 h.1.2 (h.2 t j q rfl) (by omega)
    rw [show D + 1 + 2 = D + 3 by omega] at this
    exact this
theorem pattB_gd {p : ByteArray} {ic nl : Bool} {deeper : Option (Nat → Nat → PR)} {deep : Bool} {dd : Nat} {D : Int} (hdd : dd ≤ 32) (hD : 0 ≤ D) (hd : DGd true p deeper dd D) (hf : DFine p deeper) (hp : p.size ≤ 1024) : ∀ (n : Nat) (front star : Bool) (i g g0 : Nat) (acc : List T), i ≤ p.size → 2 * g ≤ i + dd → LGd true acc g0 g (D + 3) → (pattB p ic nl deeper deep n front star i g acc).Gd true p g0 dd (D + 4)
  | 0, front, star, i, g, g0, acc, hi, hg, hl => ⟨by omega, by omega⟩
  | n + 1, front, star, i, g, g0, acc, hi, hg, hl => by
    rw [pattB]
    split
    · exact ⟨(Gd.seq hl (by omega)).mono (by omega), by omega⟩
    · split
      · rename_i hc
        have := pb_ins hc.2 (by decide)
        exact pattB_gd hdd hD hd hf hp n false star (i + 1) g g0 (acc ++ [begT]) (by omega) (by omega) (hl.snoc ((Gd.beg true g).mono (by omega)))
      · split
        · rename_i hc
          have := pb_ins hc.1 (by decide)
          exact pattB_gd hdd hD hd hf hp n false false (i + 1) g g0 (acc ++ [endT]) (by omega) (by omega) (hl.snoc ((Gd.end_ true g).mono (by omega)))
        · have hpi := pieceB_gd (ic := ic) (nl := nl) hdd hD hd hf hp star (i := i) (g := g) (by omega) hg
          have hfi := pieceB_fine (ic := ic) (nl := nl) hf star (i := i) (g := g) (by omega)
          cases ha : pieceB p ic nl deeper star i g with
          | bad c pl => rw [ha] at hpi; exact hpi
          | ok t j h =>
            rw [ha] at hpi hfi
            simp only [PR.Fine] at hfi
            exact pattB_gd hdd hD hd hf hp n false false j h g0 (acc ++ [t]) (by omega) hpi.2 (hl.snoc hpi.1)
theorem PR.Gd.mono {na : Bool} {r : PR} {p : ByteArray} {g dd : Nat} {D D' : Int} (h : r.Gd na p g dd D) (hD : D ≤ D') : r.Gd na p g dd D' := by
  cases r with
  | bad c pl => exact h
  | ok t j q => exact ⟨Proofs.YtpkcklpjbeginaaDoor.Gd.mono h.1 hD, h.2⟩
theorem deepB_gd {p : ByteArray} {ic nl : Bool} (hp : p.size ≤ 1024) : ∀ (k : Nat) (d : Bool) (i g dd : Nat), dd + k = 32 → i ≤ p.size → 2 * g ≤ i + dd → (deepB p ic nl k d i g).Gd true p g dd (5 * (k + 1))
  | 0, d, i, g, dd, hk, hi, hg => by
    have := pattB_gd (p := p) (ic := ic) (nl := nl) (deep := d) (D := 0) (dd := dd) (by omega) (by omega) (deeper := none) (fun f e => by cases e) (fun f e => by cases e) hp (p.size + 1) true true i g g [] hi hg (LGd.nil true g _)
    exact this.mono (by omega)
  | k + 1, d, i, g, dd, hk, hi, hg => by
    have := pattB_gd (p := p) (ic := ic) (nl := nl) (deep := d) (D := 5 * ((k : Int) + 1)) (dd := dd) (by omega) (by omega) (deeper := some (deepB p ic nl k true)) (fun f e i g hi hg => by injection e with e; subst e; exact deepB_gd hp k true i g (dd + 1) (by omega) hi hg) (deepB_dfine k) hp (p.size + 1) true true i g g [] hi hg (LGd.nil true g _)
    exact this.mono (by omega)
/-- What bre.Parse answers. -/
theorem parseB_right (p : ByteArray) (ic nl : Bool) : match parseB p ic nl with
    | .ok t _ g => p.size ≤ 1024 ∧ t.check = none ∧ t.tid true 0 false = (g : Int) ∧ g ≤ 1024 ∧ t.nodes ≤ 10000
    | .bad _ pl => 0 ≤ pl ∧ pl ≤ p.size := by
  unfold parseB
  by_cases hp : 1024 < p.size
  · rw [if_pos hp]; exact ⟨by omega, by omega⟩
  · rw [if_neg hp]
    have h1 := deepB_gd (p := p) (ic := ic) (nl := nl) (by omega) 32 false 0 0 0 rfl (Nat.zero_le _) (Nat.le_refl _)
    have h2 := deepB_fine (p := p) (ic := ic) (nl := nl) 32 false 0 0 (Nat.zero_le _)
    cases hr : deepB p ic nl 32 false 0 0 with
    | bad c pl => rw [hr] at h1; exact h1
    | ok t j q =>
      rw [hr] at h1 h2
      simp only [PR.Fine] at h2
      simp only [wholeP]
      by_cases hb : 2000 < t.fullSize
      · rw [if_pos hb]; exact ⟨by omega, by omega⟩
      · rw [if_neg hb]
        refine ⟨by omega, ?_, h1.1.tid, by omega, by omega⟩
        unfold T.check
        rw [if_pos h1.1.form, if_neg (by have := h1.1.dep; omega), if_neg (form_size h1.1.form hb)]
end Go.Proofs.YtpkcklpjbeginaaDoor
