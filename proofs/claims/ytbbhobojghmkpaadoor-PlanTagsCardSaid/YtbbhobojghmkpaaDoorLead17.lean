/- trawlref17.lead: edges from lasts to firsts. (Began as a print of gen_lead17.py.) -/
import Derived.Test.YtbbhobojghmkpaaDoorRows17
set_option linter.unusedSimpArgs false
set_option linter.unusedVariables false
namespace Go.Proofs.YtbbhobojghmkpaaDoor
open Go.RowKit

/-- The list of the rows' lists: none where there is no position. -/
def folV (N fb fc : Nat) : Value := if N = 0 then .slice none 0 0 else .slice (some ⟨fb, 0, none⟩) N fc
theorem folV_pos {N fb fc : Nat} (h : 0 < N) : folV N fb fc = .slice (some ⟨fb, 0, none⟩) N fc := if_neg (by omega)
/-- The document's maker in memory: how many positions, the sets so far, the ways from each to each. -/
structure MkAt (w : World) (gm N fb fc : Nat) (rows : Nat → Nat) (sv : Value) (M : Nat → Nat → Nat) (B0 : Nat) (S : List Se) : Prop where
  box : Blk w gm 123 #[.int .i64 (N : Int), sv, folV N fb fc]
  fol : 0 < N → ∃ row : Array Value, Blk w fb 55 row ∧ ∀ i, i < N → row[i]? = some (.slice (some ⟨rows i, 0, none⟩) N N)
  row : ∀ i, i < N → InRow w (rows i) N (M i)
  inj : ∀ i j, i < N → j < N → rows i = rows j → i = j
  small : ∀ i j, M i j < 16
  low : ∀ i, i < N → B0 ≤ rows i
  sets : w.ownsRow B0 24 4 sv S.length (S.flatMap Se.cells)

/-- The ways with those of lasts to firsts. -/
def ledM (M : Nat → Nat → Nat) (l f : Nat → Nat) (ways p q : Nat) : Nat := M p q ||| (l p &&& f q &&& ways)

theorem MkAt.setRow {w : World} {gm N fb fc : Nat} {rows : Nat → Nat} {sv : Value} {M : Nat → Nat → Nat} {B0 : Nat} {S : List Se} (h : MkAt w gm N fb fc rows sv M B0 S) (p q v : Nat) (hp : p < N) (hq : q < N) (hv : v < 16) :
    MkAt (w.setCell ⟨rows p, q, none⟩ (.int .i64 (v : Int))) gm N fb fc rows sv (fun i j => if i = p ∧ j = q then v else M i j) B0 S := by
  obtain ⟨row, hr, hrn⟩ := h.fol (by omega)
  have h1 : gm ≠ rows p := fun e => by
    obtain ⟨r2, hr2, _⟩ := h.row p hp
    exact h.box.ne_type hr2 (by decide) e
  have h2 : fb ≠ rows p := fun e => by
    obtain ⟨r2, hr2, _⟩ := h.row p hp
    exact hr.ne_type hr2 (by decide) e
  refine ⟨h.box.far h1 _, fun _ => ⟨row, hr.far h2 _, hrn⟩, fun i hi => ?_, h.inj, fun i j => ?_, h.low, ?_⟩
  · by_cases e : i = p
    · subst e
      refine ((h.row i hi).set q v hq).congr fun j hj => ?_
      by_cases e2 : j = q
      · simp [e2]
      · simp [e2]
    · obtain ⟨r2, hr2, hs, hc⟩ := h.row i hi
      refine InRow.congr (p := M i) ⟨r2, hr2.far (fun e2 => e (h.inj i p hi hp e2)) _, hs, hc⟩ fun j hj => by simp [e]
  · split
    · exact hv
    · exact h.small i j
  · have hs := h.sets
    refine ⟨hs.1, ?_⟩
    rcases hs.2 with h3 | ⟨g, cap, cur, e, hb, hg, r⟩
    · exact .inl h3
    · refine .inr ⟨g, cap, cur, e, hb, ?_, r⟩
      have hne : g ≠ rows p := fun e2 => by
        obtain ⟨r2, hr2, _⟩ := h.row p hp
        exact Blk.ne_type (show Blk w g 24 cur from hg) hr2 (by decide) e2
      exact (show Blk w g 24 cur from hg).far hne _
theorem MkAt.same {w w' : World} {gm N fb fc : Nat} {rows : Nat → Nat} {sv : Value} {M : Nat → Nat → Nat} {B0 : Nat} {S : List Se} (h : MkAt w gm N fb fc rows sv M B0 S) {ok : Nat → Prop} (hs : Same ok w w') (h1 : ok gm) (h2 : 0 < N → ok fb) (h3 : ∀ i, i < N → ok (rows i)) (h4 : ∀ g, sv.ownBlock = some g → ok g) : MkAt w' gm N fb fc rows sv M B0 S := by
  refine ⟨h.box.same hs h1, fun h0 => (by obtain ⟨row, hr, hrn⟩ := h.fol h0; exact ⟨row, hr.same hs (h2 h0), hrn⟩), fun i hi => (h.row i hi).same hs (h3 i hi), h.inj, h.small, h.low, h.sets.1, ?_⟩
  rcases h.sets.2 with h5 | ⟨g, cap, cur, e, hb, hg, r⟩
  · exact .inl h5
  · exact .inr ⟨g, cap, cur, e, hb, (hs g (h4 g (by rw [e]; rfl))).trans hg, r⟩
theorem MkAt.next {w w' : World} {gm N fb fc : Nat} {rows : Nat → Nat} {sv : Value} {M : Nat → Nat → Nat} {B0 : Nat} {S : List Se} (h : MkAt w gm N fb fc rows sv M B0 S) (hb : Below w.heap.size w w') : MkAt w' gm N fb fc rows sv M B0 S := by
  exact h.same (same_of_below hb) h.box.lt (fun h0 => by obtain ⟨row, hr, hrn⟩ := h.fol h0; exact hr.lt) (fun i hi => (h.row i hi).lt) fun g hg => (World.ownsRow.lt h.sets g hg).2
theorem MkAt.congr {w : World} {gm N fb fc : Nat} {rows : Nat → Nat} {sv : Value} {M M' : Nat → Nat → Nat} {B0 : Nat} {S : List Se} (h : MkAt w gm N fb fc rows sv M B0 S) (e : ∀ i j, i < N → j < N → M i j = M' i j) (hs : ∀ i j, M' i j < 16) : MkAt w gm N fb fc rows sv M' B0 S :=
  ⟨h.box, h.fol, fun i hi => (h.row i hi).congr fun j hj => e i j hi hj, h.inj, hs, h.low, h.sets⟩

/-- The edges were laid. -/
structure Led17 (gm N fb fc : Nat) (rows : Nat → Nat) (sv : Value) (M : Nat → Nat → Nat) (B0 : Nat) (S : List Se) (y y' : World) : Prop where
  at_ : MkAt y' gm N fb fc rows sv M B0 S
  below : Below B0 y y'
  same : Same (fun b => b < y.heap.size ∧ ∀ i, i < N → b ≠ rows i) y y'

set_option maxRecDepth 100000 in
set_option maxHeartbeats 4000000 in
theorem lead17_any (gm N fb fc la fa ways B0 : Nat) (rows : Nat → Nat) (sv : Value) (M : Nat → Nat → Nat) (S : List Se) (l f : Nat → Nat) (y : World) (hN : N ≤ 1000000) (hw : ways < 16) (hl : ∀ i, l i < 16) (hf : ∀ i, f i < 16) (hm : MkAt y gm N fb fc rows sv M B0 S)
    (hla : InRow y la N l) (hfa : InRow y fa N f) (hln : ∀ i, i < N → la ≠ rows i) (hfn : ∀ i, i < N → fa ≠ rows i) :
    Calls Tryd.prog 119 #[.pointer (some ⟨gm, 0, none⟩), .slice (some ⟨la, 0, none⟩) N N, .slice (some ⟨fa, 0, none⟩) N N, .int .i64 ways] y fun e y' => e = .returned (.tuple #[]) ∧ Led17 gm N fb fc rows sv (ledM M l f ways) B0 S y y' := by
  have HM := hide hm
  have HA := hide (And.intro hla (And.intro hfa (And.intro hln hfn)))
  have hmall : ∀ i j, ledM M l f ways i j < 16 := fun i j => orL (hm.small i j) (andL (andL (hl i) (hf j)) hw)
  have HMA := hide hmall
  clear hm hla hfa hln hfn hmall
  go_enter Tryd.func119, Tryd.ntmps119
  go_wp2_with fail
  go_loopw [8] (fun kv wr => ∃ k : Nat, kv = .int .i64 k ∧ k ≤ N ∧ Led17 gm N fb fc rows sv (fun p q => if p < k then ledM M l f ways p q else M p q) B0 S y wr) (fun kv _ => N - (intOf kv).toNat)
  case atStart => exact ⟨0, rfl, by omega, HM.out.congr (fun i j _ _ => by simp) (fun i j => by simp [HM.out.small]), Below.refl _ _, Same.refl _ _⟩
  case round =>
    obtain ⟨k, rfl, hk, hled⟩ := hrel
    have cg := hled.at_.box.cell
    have HL := hide hled
    clear hled
    by_cases hlt : k < N
    case neg =>
      have g1 : decide ((k : Int) < (N : Int)) = false := decide_eq_false (by omega)
      go_wp2_with fail
      go_end0
      exact ⟨rfl, HL.out.at_.congr (fun i j hi _ => by rw [if_pos (by omega)]) HMA.out, HL.out.below, HL.out.same⟩
    have g1 : decide ((k : Int) < (N : Int)) = true := decide_eq_true (by omega)
    have hlr := HA.out.1.same HL.out.same ⟨HA.out.1.lt, HA.out.2.2.1⟩
    have cl := hlr.cell k hlt
    by_cases h0 : l k = 0
    · rw [h0] at cl
      have H0 := hide h0
      clear h0 hlr
      go_wp2_with fail
      go_roundw
      case rel =>
        refine ⟨k + 1, by go_num, hlt, HL.out.at_.congr (fun i j _ _ => ?_) (fun i j => ?_), HL.out.below, HL.out.same⟩
        · by_cases h : i < k
          · rw [if_pos h, if_pos (by omega)]
          · by_cases h2 : i = k
            · subst h2
              rw [if_neg h, if_pos (by omega)]
              unfold ledM
              rw [H0.out]
              simp
            · rw [if_neg h, if_neg (by omega)]
        · split
          · exact HMA.out i j
          · exact HM.out.small i j
      case measure => simp [intOf]; omega
    have g2 : ((l k : Int) == 0) = false := beq_false_of_ne (by omega)
    clear hlr
    go_wp2_with fail
    clear cg cl
    rename World => W1
    go_loopw [9] (fun jv wr => ∃ j : Nat, jv = .int .i64 j ∧ j ≤ N ∧ Led17 gm N fb fc rows sv (fun p q => if p < k ∨ (p = k ∧ q < j) then ledM M l f ways p q else M p q) B0 S y wr) (fun jv _ => N - (intOf jv).toNat)
    case atStart =>
      refine ⟨0, rfl, by omega, HL.out.at_.congr (fun i j _ _ => ?_) (fun i j => ?_), HL.out.below, HL.out.same⟩
      · by_cases h : i < k
        · rw [if_pos h, if_pos (.inl h)]
        · rw [if_neg h, if_neg (by omega)]
      · split
        · exact HMA.out i j
        · exact HM.out.small i j
    case round =>
      clear HL
      obtain ⟨j, rfl, hj, hled⟩ := hrel
      have HL := hide hled
      clear hled
      by_cases hjl : j < N
      case neg =>
        have g3 : decide ((j : Int) < (N : Int)) = false := decide_eq_false (by omega)
        have cg := HL.out.at_.box.cell
        go_wp2_with fail
        go_roundw
        case rel =>
          refine ⟨k + 1, by go_num, hlt, HL.out.at_.congr (fun i q _ hq => ?_) (fun i j => ?_), HL.out.below, HL.out.same⟩
          · by_cases h : i < k + 1
            · rw [if_pos h, if_pos (by omega)]
            · rw [if_neg h, if_neg (by omega)]
          · split
            · exact HMA.out i j
            · exact HM.out.small i j
        case measure => simp [intOf]; omega
      have g3 : decide ((j : Int) < (N : Int)) = true := decide_eq_true (by omega)
      have ha1 := andI (hl k) (hf j)
      have ha2 := andI (andL (hl k) (hf j)) hw
      have ho := orI (HM.out.small k j) (andL (andL (hl k) (hf j)) hw)
      have hv16 := HMA.out k j
      have hfol := HL.out.at_.fol (by omega)
      have HFO := hide hfol
      clear hfol
      have cg0 := HL.out.at_.box.cell
      go_upto_region 7 with fail
      clear cg0
      refine wp_region_mix (fun y => Below wr.heap.size wr y) [31] (by kernel_rfl) (fun hcl => ?_)
      have hS : Below wr.heap.size wr wr.drew := (Below.refl _ _).drew
      refine wpAnyT_free (i := 0) hcl rfl (by kernel_rfl) (v := ?_) (fun _ _ _ h => h) hS (Or.inl ⟨rfl, fun w' _ => ?_⟩) (fun hcl => ?_)
      rotate_left
      · go_simp
        with_reducible rfl
      simp only [List.getElem_toArray, List.getElem_cons_zero, List.getElem_cons_succ, Act.put, List.setIfInBounds_toArray, List.set_cons_zero, List.set_cons_succ]
      refine wpAnyT_free (i := 1) hcl rfl (by kernel_rfl) (v := ?_) (fun _ _ _ h => h) hS (Or.inl ⟨rfl, fun w' _ => ?_⟩) (fun hcl => ?_)
      rotate_left
      · go_simp
        with_reducible rfl
      simp only [List.getElem_toArray, List.getElem_cons_zero, List.getElem_cons_succ, Act.put, List.setIfInBounds_toArray, List.set_cons_zero, List.set_cons_succ]
      refine wpAnyT_free (i := 2) hcl rfl (by kernel_rfl) (v := ?_) (fun _ _ _ h => h) hS (Or.inl ⟨rfl, fun w' _ => ?_⟩) (fun hcl => ?_)
      rotate_left
      · go_simp
        with_reducible rfl
      simp only [List.getElem_toArray, List.getElem_cons_zero, List.getElem_cons_succ, Act.put, List.setIfInBounds_toArray, List.set_cons_zero, List.set_cons_succ]
      refine wpAnyT_get (i := 3) hcl rfl (by kernel_rfl) (v := ?_) (fun _ _ _ h => h) hS (Or.inl ⟨rfl, fun w' hS => ?_⟩) (fun hcl => ?_)
      rotate_left
      · skip
        have cg := (HL.out.at_.next hS).box.cell
        simp only [folV_pos (show 0 < N by omega)] at cg
        go_simp
        with_reducible rfl
      simp only [List.getElem_toArray, List.getElem_cons_zero, List.getElem_cons_succ, Act.put, List.setIfInBounds_toArray, List.set_cons_zero, List.set_cons_succ]
      refine wpAnyT_free (i := 4) hcl rfl (by kernel_rfl) (v := ?_) (fun _ _ _ h => h) hS (Or.inl ⟨rfl, fun w' _ => ?_⟩) (fun hcl => ?_)
      rotate_left
      · go_simp
        with_reducible rfl
      simp only [List.getElem_toArray, List.getElem_cons_zero, List.getElem_cons_succ, Act.put, List.setIfInBounds_toArray, List.set_cons_zero, List.set_cons_succ]
      refine wpAnyT_free (i := 5) hcl rfl (by kernel_rfl) (v := ?_) (fun _ _ _ h => h) hS (Or.inl ⟨rfl, fun w' _ => ?_⟩) (fun hcl => ?_)
      rotate_left
      · go_simp
        with_reducible rfl
      simp only [List.getElem_toArray, List.getElem_cons_zero, List.getElem_cons_succ, Act.put, List.setIfInBounds_toArray, List.set_cons_zero, List.set_cons_succ]
      refine wpAnyT_get (i := 6) hcl rfl (by kernel_rfl) (v := ?_) (fun _ _ _ h => h) hS (Or.inl ⟨rfl, fun w' hS => ?_⟩) (fun hcl => ?_)
      rotate_left
      · skip
        have cf : w'.cell? ⟨fb, k, none⟩ = some (.slice (some ⟨rows k, 0, none⟩) N N) := by (obtain ⟨r3, hr3, hn3⟩ := (HL.out.at_.next hS).fol (by omega); rw [hr3.cell, hn3 k hlt])
        go_simp
        with_reducible rfl
      simp only [List.getElem_toArray, List.getElem_cons_zero, List.getElem_cons_succ, Act.put, List.setIfInBounds_toArray, List.set_cons_zero, List.set_cons_succ]
      refine wpAnyT_free (i := 7) hcl rfl (by kernel_rfl) (v := ?_) (fun _ _ _ h => h) hS (Or.inl ⟨rfl, fun w' _ => ?_⟩) (fun hcl => ?_)
      rotate_left
      · go_simp
        with_reducible rfl
      simp only [List.getElem_toArray, List.getElem_cons_zero, List.getElem_cons_succ, Act.put, List.setIfInBounds_toArray, List.set_cons_zero, List.set_cons_succ]
      refine wpAnyT_free (i := 8) hcl rfl (by kernel_rfl) (v := ?_) (fun _ _ _ h => h) hS (Or.inl ⟨rfl, fun w' _ => ?_⟩) (fun hcl => ?_)
      rotate_left
      · go_simp
        with_reducible rfl
      simp only [List.getElem_toArray, List.getElem_cons_zero, List.getElem_cons_succ, Act.put, List.setIfInBounds_toArray, List.set_cons_zero, List.set_cons_succ]
      refine wpAnyT_free (i := 9) hcl rfl (by kernel_rfl) (v := ?_) (fun _ _ _ h => h) hS (Or.inl ⟨rfl, fun w' _ => ?_⟩) (fun hcl => ?_)
      rotate_left
      · go_simp
        with_reducible rfl
      simp only [List.getElem_toArray, List.getElem_cons_zero, List.getElem_cons_succ, Act.put, List.setIfInBounds_toArray, List.set_cons_zero, List.set_cons_succ]
      refine wpAnyT_free (i := 10) hcl rfl (by kernel_rfl) (v := ?_) (fun _ _ _ h => h) hS (Or.inl ⟨rfl, fun w' _ => ?_⟩) (fun hcl => ?_)
      rotate_left
      · go_simp
        with_reducible rfl
      simp only [List.getElem_toArray, List.getElem_cons_zero, List.getElem_cons_succ, Act.put, List.setIfInBounds_toArray, List.set_cons_zero, List.set_cons_succ]
      refine wpAnyT_get (i := 11) hcl rfl (by kernel_rfl) (v := ?_) (fun _ _ _ h => h) hS (Or.inl ⟨rfl, fun w' hS => ?_⟩) (fun hcl => ?_)
      rotate_left
      · skip
        have cg := (HL.out.at_.next hS).box.cell
        simp only [folV_pos (show 0 < N by omega)] at cg
        go_simp
        with_reducible rfl
      simp only [List.getElem_toArray, List.getElem_cons_zero, List.getElem_cons_succ, Act.put, List.setIfInBounds_toArray, List.set_cons_zero, List.set_cons_succ]
      refine wpAnyT_free (i := 12) hcl rfl (by kernel_rfl) (v := ?_) (fun _ _ _ h => h) hS (Or.inl ⟨rfl, fun w' _ => ?_⟩) (fun hcl => ?_)
      rotate_left
      · go_simp
        with_reducible rfl
      simp only [List.getElem_toArray, List.getElem_cons_zero, List.getElem_cons_succ, Act.put, List.setIfInBounds_toArray, List.set_cons_zero, List.set_cons_succ]
      refine wpAnyT_free (i := 13) hcl rfl (by kernel_rfl) (v := ?_) (fun _ _ _ h => h) hS (Or.inl ⟨rfl, fun w' _ => ?_⟩) (fun hcl => ?_)
      rotate_left
      · go_simp
        with_reducible rfl
      simp only [List.getElem_toArray, List.getElem_cons_zero, List.getElem_cons_succ, Act.put, List.setIfInBounds_toArray, List.set_cons_zero, List.set_cons_succ]
      refine wpAnyT_get (i := 14) hcl rfl (by kernel_rfl) (v := ?_) (fun _ _ _ h => h) hS (Or.inl ⟨rfl, fun w' hS => ?_⟩) (fun hcl => ?_)
      rotate_left
      · skip
        have cf : w'.cell? ⟨fb, k, none⟩ = some (.slice (some ⟨rows k, 0, none⟩) N N) := by (obtain ⟨r3, hr3, hn3⟩ := (HL.out.at_.next hS).fol (by omega); rw [hr3.cell, hn3 k hlt])
        go_simp
        with_reducible rfl
      simp only [List.getElem_toArray, List.getElem_cons_zero, List.getElem_cons_succ, Act.put, List.setIfInBounds_toArray, List.set_cons_zero, List.set_cons_succ]
      refine wpAnyT_free (i := 15) hcl rfl (by kernel_rfl) (v := ?_) (fun _ _ _ h => h) hS (Or.inl ⟨rfl, fun w' _ => ?_⟩) (fun hcl => ?_)
      rotate_left
      · go_simp
        with_reducible rfl
      simp only [List.getElem_toArray, List.getElem_cons_zero, List.getElem_cons_succ, Act.put, List.setIfInBounds_toArray, List.set_cons_zero, List.set_cons_succ]
      refine wpAnyT_free (i := 16) hcl rfl (by kernel_rfl) (v := ?_) (fun _ _ _ h => h) hS (Or.inl ⟨rfl, fun w' _ => ?_⟩) (fun hcl => ?_)
      rotate_left
      · go_simp
        with_reducible rfl
      simp only [List.getElem_toArray, List.getElem_cons_zero, List.getElem_cons_succ, Act.put, List.setIfInBounds_toArray, List.set_cons_zero, List.set_cons_succ]
      refine wpAnyT_get (i := 17) hcl rfl (by kernel_rfl) (v := ?_) (fun _ _ _ h => h) hS (Or.inl ⟨rfl, fun w' hS => ?_⟩) (fun hcl => ?_)
      rotate_left
      · skip
        have cr := ((HL.out.at_.next hS).row k hlt).cell j hjl
        simp only [Nat.lt_irrefl, false_or, and_false, if_false] at cr
        go_simp
        with_reducible rfl
      simp only [List.getElem_toArray, List.getElem_cons_zero, List.getElem_cons_succ, Act.put, List.setIfInBounds_toArray, List.set_cons_zero, List.set_cons_succ]
      refine wpAnyT_free (i := 18) hcl rfl (by kernel_rfl) (v := ?_) (fun _ _ _ h => h) hS (Or.inl ⟨rfl, fun w' _ => ?_⟩) (fun hcl => ?_)
      rotate_left
      · go_simp
        with_reducible rfl
      simp only [List.getElem_toArray, List.getElem_cons_zero, List.getElem_cons_succ, Act.put, List.setIfInBounds_toArray, List.set_cons_zero, List.set_cons_succ]
      refine wpAnyT_free (i := 19) hcl rfl (by kernel_rfl) (v := ?_) (fun _ _ _ h => h) hS (Or.inl ⟨rfl, fun w' _ => ?_⟩) (fun hcl => ?_)
      rotate_left
      · go_simp
        with_reducible rfl
      simp only [List.getElem_toArray, List.getElem_cons_zero, List.getElem_cons_succ, Act.put, List.setIfInBounds_toArray, List.set_cons_zero, List.set_cons_succ]
      refine wpAnyT_free (i := 20) hcl rfl (by kernel_rfl) (v := ?_) (fun _ _ _ h => h) hS (Or.inl ⟨rfl, fun w' _ => ?_⟩) (fun hcl => ?_)
      rotate_left
      · go_simp
        with_reducible rfl
      simp only [List.getElem_toArray, List.getElem_cons_zero, List.getElem_cons_succ, Act.put, List.setIfInBounds_toArray, List.set_cons_zero, List.set_cons_succ]
      refine wpAnyT_get (i := 21) hcl rfl (by kernel_rfl) (v := ?_) (fun _ _ _ h => h) hS (Or.inl ⟨rfl, fun w' hS => ?_⟩) (fun hcl => ?_)
      rotate_left
      · skip
        have cl := ((HA.out.1.same HL.out.same ⟨HA.out.1.lt, HA.out.2.2.1⟩).next hS).cell k hlt
        go_simp
        with_reducible rfl
      simp only [List.getElem_toArray, List.getElem_cons_zero, List.getElem_cons_succ, Act.put, List.setIfInBounds_toArray, List.set_cons_zero, List.set_cons_succ]
      refine wpAnyT_free (i := 22) hcl rfl (by kernel_rfl) (v := ?_) (fun _ _ _ h => h) hS (Or.inl ⟨rfl, fun w' _ => ?_⟩) (fun hcl => ?_)
      rotate_left
      · go_simp
        with_reducible rfl
      simp only [List.getElem_toArray, List.getElem_cons_zero, List.getElem_cons_succ, Act.put, List.setIfInBounds_toArray, List.set_cons_zero, List.set_cons_succ]
      refine wpAnyT_free (i := 23) hcl rfl (by kernel_rfl) (v := ?_) (fun _ _ _ h => h) hS (Or.inl ⟨rfl, fun w' _ => ?_⟩) (fun hcl => ?_)
      rotate_left
      · go_simp
        with_reducible rfl
      simp only [List.getElem_toArray, List.getElem_cons_zero, List.getElem_cons_succ, Act.put, List.setIfInBounds_toArray, List.set_cons_zero, List.set_cons_succ]
      refine wpAnyT_free (i := 24) hcl rfl (by kernel_rfl) (v := ?_) (fun _ _ _ h => h) hS (Or.inl ⟨rfl, fun w' _ => ?_⟩) (fun hcl => ?_)
      rotate_left
      · go_simp
        with_reducible rfl
      simp only [List.getElem_toArray, List.getElem_cons_zero, List.getElem_cons_succ, Act.put, List.setIfInBounds_toArray, List.set_cons_zero, List.set_cons_succ]
      refine wpAnyT_get (i := 25) hcl rfl (by kernel_rfl) (v := ?_) (fun _ _ _ h => h) hS (Or.inl ⟨rfl, fun w' hS => ?_⟩) (fun hcl => ?_)
      rotate_left
      · skip
        have cfi := ((HA.out.2.1.same HL.out.same ⟨HA.out.2.1.lt, HA.out.2.2.2⟩).next hS).cell j hjl
        go_simp
        with_reducible rfl
      simp only [List.getElem_toArray, List.getElem_cons_zero, List.getElem_cons_succ, Act.put, List.setIfInBounds_toArray, List.set_cons_zero, List.set_cons_succ]
      refine wpAnyT_free (i := 26) hcl rfl (by kernel_rfl) (v := ?_) (fun _ _ _ h => h) hS (Or.inl ⟨rfl, fun w' _ => ?_⟩) (fun hcl => ?_)
      rotate_left
      · go_simp
        with_reducible rfl
      simp only [List.getElem_toArray, List.getElem_cons_zero, List.getElem_cons_succ, Act.put, List.setIfInBounds_toArray, List.set_cons_zero, List.set_cons_succ]
      refine wpAnyT_free (i := 27) hcl rfl (by kernel_rfl) (v := ?_) (fun _ _ _ h => h) hS (Or.inl ⟨rfl, fun w' _ => ?_⟩) (fun hcl => ?_)
      rotate_left
      · go_simp
        with_reducible rfl
      simp only [List.getElem_toArray, List.getElem_cons_zero, List.getElem_cons_succ, Act.put, List.setIfInBounds_toArray, List.set_cons_zero, List.set_cons_succ]
      refine wpAnyT_free (i := 28) hcl rfl (by kernel_rfl) (v := ?_) (fun _ _ _ h => h) hS (Or.inl ⟨rfl, fun w' _ => ?_⟩) (fun hcl => ?_)
      rotate_left
      · go_simp
        with_reducible rfl
      simp only [List.getElem_toArray, List.getElem_cons_zero, List.getElem_cons_succ, Act.put, List.setIfInBounds_toArray, List.set_cons_zero, List.set_cons_succ]
      refine wpAnyT_free (i := 29) hcl rfl (by kernel_rfl) (v := ?_) (fun _ _ _ h => h) hS (Or.inl ⟨rfl, fun w' _ => ?_⟩) (fun hcl => ?_)
      rotate_left
      · go_simp
        with_reducible rfl
      simp only [List.getElem_toArray, List.getElem_cons_zero, List.getElem_cons_succ, Act.put, List.setIfInBounds_toArray, List.set_cons_zero, List.set_cons_succ]
      refine wpAnyT_free (i := 30) hcl rfl (by kernel_rfl) (v := ?_) (fun _ _ _ h => h) hS (Or.inl ⟨rfl, fun w' _ => ?_⟩) (fun hcl => ?_)
      rotate_left
      · go_simp
        with_reducible rfl
      simp only [List.getElem_toArray, List.getElem_cons_zero, List.getElem_cons_succ, Act.put, List.setIfInBounds_toArray, List.set_cons_zero, List.set_cons_succ]
      refine wpAnyT_last (i := 31) hcl rfl (by kernel_rfl) (by kernel_rfl) (fun hcl => ?_)
      simp only [List.getElem_toArray, List.getElem_cons_zero, List.getElem_cons_succ, Act.put, List.setIfInBounds_toArray, List.set_cons_zero, List.set_cons_succ]
      have hrk := (HL.out.at_.next hS).row k hlt
      have ck := hrk.cell j hjl
      have cfk := hrk.frozen
      clear hrk
      go_wp2_with fail
      refine wpAnyT_done (by kernel_rfl) ?_ _
      clear ck cfk
      go_wp2_with fail
      go_roundw
      case rel =>
        have hset := HL.out.at_.setRow k j (ledM M l f ways k j) hlt hjl hv16
        have hsam : Same (fun b => b < y.heap.size ∧ ∀ i, i < N → b ≠ rows i) y (wr.setCell ⟨rows k, j, none⟩ (.int .i64 ((ledM M l f ways k j : Nat) : Int))) := HL.out.same.set (fun h => h.2 k hlt rfl) _
        refine ⟨j + 1, by go_num, hjl, (hset.next (Below.refl _ _).drew).congr (fun i q _ _ => ?_) (fun i q => ?_), (HL.out.below.setCell (HM.out.low k hlt) _).drew, fun b hb => hsam b hb⟩
        · by_cases h : i = k ∧ q = j
          · rw [if_pos h, if_pos (.inr ⟨h.1, by omega⟩), h.1, h.2]
          · rw [if_neg h]
            by_cases h2 : i < k ∨ (i = k ∧ q < j)
            · rw [if_pos h2, if_pos (by omega)]
            · rw [if_neg h2, if_neg (by omega)]
        · split
          · exact HMA.out i q
          · exact HM.out.small i q
      case measure => simp [intOf]; omega
end Go.Proofs.YtbbhobojghmkpaaDoor
