/- Drawn regions whose operations make memory in any order: the rule Freely; the rule Owned (each new block belongs to the operation that made it). -/
import Derived.Test.YtkghlebfmggidaaDoorPick
import Derived.Great.Walk
set_option linter.unusedSimpArgs false
set_option linter.unusedVariables false
set_option linter.unnecessarySimpa false
namespace Go.Proofs.YtkghlebfmggidaaDoor
open Go.RowKit

/-! ### A drawn region whose first operations make memory, in any order -/

/-- The slots ds of a frame hold vals. -/
def putAll (a : Act) (ds : List Nat) (vals : Nat → Value) : Act := ds.foldl (fun a d => a.put (some d) (vals d)) a

theorem putAll_get (vals : Nat → Value) : ∀ (ds : List Nat) (a : Act) (s : Nat), (putAll a ds vals).defers = a.defers ∧ (putAll a ds vals).tmps.size = a.tmps.size ∧
    (putAll a ds vals).tmps[s]? = if s ∈ ds ∧ s < a.tmps.size then some (vals s) else a.tmps[s]?
  | [], a, s => ⟨rfl, rfl, by simp [putAll]⟩
  | d :: ds, a, s => by
    obtain ⟨h1, h2, h3⟩ := putAll_get vals ds (a.put (some d) (vals d)) s
    refine ⟨h1, h2.trans (by simp [Act.put]), ?_⟩
    show (putAll (a.put (some d) (vals d)) ds vals).tmps[s]? = _
    rw [h3]
    simp only [Act.put, Array.size_setIfInBounds, List.mem_cons]
    by_cases hs : s < a.tmps.size
    · by_cases hm : s ∈ ds
      · simp [hs, hm]
      · by_cases hd : s = d
        · subst hd; simp [hs, hm]
        · rw [if_neg (fun h => hm h.1), if_neg (fun h => h.1.elim hd hm)]
          exact Array.getElem?_setIfInBounds_ne (Ne.symm hd)
    · have hn : (a.tmps.setIfInBounds d (vals d))[s]? = none := Array.getElem?_eq_none (by simpa using hs)
      rw [if_neg (fun h => hs h.2), if_neg (fun h => hs h.2), hn, Array.getElem?_eq_none (by omega)]

section
variable {P : Program} {ops : Array Oper} {Q : Exit → Act → World → Prop}

/-- The frame and the world while the operations come up: those that have, hold what they should. -/
structure Freely (ds : List Nat) (V : Nat → World → Value → Prop) (a0 : Act) (w0 : World) (listed : Nat → Bool) (a : Act) (w : World) : Prop where
  below : Below w0.heap.size w0 w
  defers : a.defers = a0.defers
  size : a.tmps.size = a0.tmps.size
  val : ∀ i d, ds[i]? = some d → listed i = true → V i w (a.tmps.getD d undef)
  rest : ∀ s, (∀ i, ds[i]? = some s → listed i = false) → a.tmps[s]? = a0.tmps[s]?

theorem Freely.eval {ds : List Nat} {V : Nat → World → Value → Prop} {a0 : Act} {w0 : World} {listed : Nat → Bool} {a : Act} {w : World} (h : Freely ds V a0 w0 listed a w) {s : Nat} (hs : s ∉ ds) : a.eval (.tmp s) = a0.eval (.tmp s) := by
  have := h.rest s fun i hi => absurd (List.mem_of_getElem? hi) hs
  simp only [Act.eval, Array.getD_eq_getD_getElem?, this]

theorem Freely.put {ds : List Nat} {V : Nat → World → Value → Prop} {a0 : Act} {w0 : World} {listed : Nat → Bool} {a : Act} {w w' : World} {i d : Nat} {v : Value} (h : Freely ds V a0 w0 listed a w)
    (hmono : ∀ i w w' v, V i w v → Below w.heap.size w w' → V i w' v) (hnd : ds.Nodup) (hd : ds[i]? = some d) (hlt : d < a0.tmps.size) (hb : Below w.heap.size w w') (hv : V i w' v) :
    Freely ds V a0 w0 (fun k => k == i || listed k) (a.put (some d) v) w' := by
  refine ⟨h.below.trans (hb.mono h.below.size), h.defers, by simpa [Act.put] using h.size, fun k e hk hl => ?_, fun s hs => ?_⟩
  · by_cases hki : k = i
    · subst hki
      obtain rfl := Option.some.inj (hd.symm.trans hk)
      have : d < a.tmps.size := by rw [h.size]; exact hlt
      simpa [Act.put, Array.getD_eq_getD_getElem?, this] using hv
    · have hne : d ≠ e := fun e' => hki ((List.getElem?_inj (List.getElem?_eq_some_iff.1 hk).1 hnd).1 (by rw [hk, hd, e']))
      have hl' : listed k = true := by simpa [hki] using hl
      have := hmono _ _ _ _ (h.val k e hk hl') hb
      simpa [Act.put, Array.getD_eq_getD_getElem?, Array.getElem?_setIfInBounds_ne hne] using this
  · have hne : d ≠ s := fun e' => by
      subst e'
      have := hs i hd
      simp at this
    have := h.rest s fun k hk => by
      have := hs k hk
      simp only [Bool.or_eq_false_iff] at this
      exact this.2
    simpa [Act.put, Array.getElem?_setIfInBounds_ne hne] using this

/-- What is asked of the region's shape: slots apart, no guards; edges run back; the others wait for all of the first. -/
def shapeB (ops : Array Oper) (ds : List Nat) : Bool :=
  decide ds.Nodup && decide (ds.length ≤ ops.size) &&
  (List.range ds.length).all (fun i => match ops[i]? with | some o => o.dst == ds[i]? && o.guard.isNone && o.after.all (fun e => decide (e.on < i)) | none => false) &&
  (List.range ops.size).all (fun t => decide (t < ds.length) || (match ops[t]? with | some o => (List.range ds.length).all (fun i => o.after.any (fun e => Region.binds .any e && e.on == i)) | none => true))

def firstB (n m : Nat) : Array Bool := ((List.range m).map fun i => decide (i < n)).toArray

/-- One operation's due. -/
def Due (P : Program) (ops : Array Oper) (Q : Exit → Act → World → Prop) (ds : List Nat) (V : Nat → World → Value → Prop) (a0 : Act) (w0 : World) (i : Nat) (o : Oper) : Prop :=
  ∀ listed a w, Freely ds V a0 w0 listed a w → (∀ e ∈ o.after, Region.binds .any e = true → listed e.on = true) →
    wpList P ops (Exit.then (fun a' w' => ∃ v, a' = a.put o.dst v ∧ Below w.heap.size w w' ∧ V i w' v) Q) [o] a w

theorem freely_main {ds : List Nat} {V : Nat → World → Value → Prop} {a0 : Act} {w0 : World} (hmono : ∀ i w w' v, V i w v → Below w.heap.size w w' → V i w' v)
    (hB : shapeB ops ds = true) (hlt : ∀ d ∈ ds, d < a0.tmps.size) (hdue : ∀ i o, i < ds.length → ops[i]? = some o → Due P ops Q ds V a0 w0 i o) {k : Nat}
    (htail : ∀ vals w, Below w0.heap.size w0 w → (∀ i d, ds[i]? = some d → V i w (vals d)) → wpAny P .any ops Q k (firstB ds.length ops.size) (putAll a0 ds vals) w) :
    ∀ (m : Nat) (listed : Array Bool) (a : Act) (w : World), ((List.range ds.length).filter fun i => !listed.getD i true).length = m → listed.size = ops.size → (∀ t, ds.length ≤ t → listed.getD t false = false) →
      Freely ds V a0 w0 (fun i => listed.getD i false) a w → wpAny P .any ops Q (m + k) listed a w := by
  simp only [shapeB, Bool.and_eq_true, decide_eq_true_eq, List.all_eq_true, List.mem_range, Bool.or_eq_true] at hB
  obtain ⟨⟨⟨hnd, hle⟩, hsh⟩, hwait⟩ := hB
  have hget : ∀ (listed : Array Bool) i, listed.size = ops.size → i < ops.size → listed.getD i true = listed.getD i false := fun listed i hs hi => by
    simp [Array.getD_eq_getD_getElem?, hs ▸ hi, show i < listed.size by omega]
  intro m
  induction m with
  | zero =>
    intro listed a w hc hsz hoff hf
    have hall : ∀ i, i < ds.length → listed.getD i false = true := fun i hi => by
      have h0 := List.eq_nil_of_length_eq_zero hc
      have := List.filter_eq_nil_iff.1 h0 i (by simpa using hi)
      rw [← hget listed i hsz (by omega)]
      simpa using this
    have hl : listed = firstB ds.length ops.size := by
      refine Array.ext_getElem? fun i => ?_
      by_cases hi : i < ops.size
      · have e1 : listed[i]? = some (listed.getD i false) := by simp [Array.getD_eq_getD_getElem?, show i < listed.size by omega]
        rw [e1]
        simp only [firstB, List.getElem?_toArray, List.getElem?_map, List.getElem?_range hi, Option.map_some]
        by_cases hn : i < ds.length
        · rw [hall i hn]; simp [hn]
        · rw [hoff i (by omega)]; simp [hn]
      · rw [Array.getElem?_eq_none (by omega)]
        simp [firstB, List.getElem?_eq_none (show (List.range ops.size).length ≤ i by simp; omega)]
    have ha : a = putAll a0 ds (fun s => a.tmps.getD s undef) := by
      obtain ⟨h1, h2, _⟩ := putAll_get (fun s => a.tmps.getD s undef) ds a0 0
      have ht : a.tmps = (putAll a0 ds (fun s => a.tmps.getD s undef)).tmps := by
        refine Array.ext_getElem? fun s => ?_
        rw [(putAll_get (fun s => a.tmps.getD s undef) ds a0 s).2.2]
        by_cases hs : s ∈ ds ∧ s < a0.tmps.size
        · rw [if_pos hs]
          simp [Array.getD_eq_getD_getElem?, show s < a.tmps.size by rw [hf.size]; exact hs.2]
        · rw [if_neg hs]
          by_cases hm : s ∈ ds
          · have : ¬ s < a0.tmps.size := fun h => hs ⟨hm, h⟩
            rw [Array.getElem?_eq_none (by rw [hf.size]; omega), Array.getElem?_eq_none (by omega)]
          · exact hf.rest s fun i hi => absurd (List.mem_of_getElem? hi) hm
      cases a
      have hd := hf.defers
      generalize putAll a0 ds _ = b at *
      cases b
      simp_all
    rw [hl, Nat.zero_add, ha]
    exact htail _ w hf.below fun i d hi => hf.val i d hi (hall i (List.getElem?_eq_some_iff.1 hi).1)
  | succ m ih =>
    intro listed a w hc hsz hoff hf
    have hun : ∃ i, i < ds.length ∧ listed.getD i false = false := by
      cases hl : (List.range ds.length).filter fun i => !listed.getD i true with
      | nil => rw [hl] at hc; simp at hc
      | cons i r =>
        have hi : i ∈ (List.range ds.length).filter fun i => !listed.getD i true := by rw [hl]; simp
        obtain ⟨h1, h2⟩ := List.mem_filter.1 hi
        have h1' : i < ds.length := by simpa using h1
        exact ⟨i, h1', by rw [← hget listed i hsz (by omega)]; simpa using h2⟩
    have hleast : ∃ i, i < ds.length ∧ listed.getD i false = false ∧ ∀ j, j < i → listed.getD j false = true := by
      obtain ⟨i, h1, h2⟩ := hun
      induction i using Nat.strongRecOn with
      | ind i ihi =>
        by_cases h : ∃ j, j < i ∧ listed.getD j false = false
        · obtain ⟨j, hj, hj2⟩ := h
          exact ihi j hj (by omega) hj2
        · exact ⟨i, h1, h2, fun j hj => by
            cases hb : listed.getD j false with
            | true => rfl
            | false => exact absurd ⟨j, hj, hb⟩ h⟩
    rw [show m + 1 + k = (m + k) + 1 by omega]
    refine ⟨fun h0 => ?_, fun i hi => ?_⟩
    · exfalso
      obtain ⟨i, h1, h2, h3⟩ := hleast
      have hsi := hsh i h1
      cases ho : ops[i]? with
      | none => rw [ho] at hsi; cases hsi
      | some o =>
        rw [ho] at hsi
        simp only [Bool.and_eq_true, Array.all_eq_true_iff_forall_mem, decide_eq_true_eq] at hsi
        have : i ∈ Region.ready .any ops listed := mem_ready.2 ⟨by rw [hget listed i hsz (by omega)]; exact h2, o, ho, fun e he _ => h3 e.on (hsi.2 e he)⟩
        rw [h0] at this
        cases this
    · obtain ⟨hnot, o, ho, hafter⟩ := mem_ready.1 hi
      have hio : i < ops.size := (Array.getElem?_eq_some_iff.1 ho).1
      have hin : i < ds.length := by
        rcases hwait i hio with h | h
        · exact h
        · exfalso
          obtain ⟨j, h1, h2⟩ := hun
          rw [ho] at h
          simp only [List.all_eq_true, List.mem_range] at h
          obtain ⟨e, he, hb⟩ := Array.any_eq_true'.1 (h j h1)
          simp only [Bool.and_eq_true, beq_iff_eq] at hb
          have := hafter e he hb.1
          rw [hb.2, h2] at this
          cases this
      have hsi := hsh i hin
      rw [ho] at hsi
      simp only [Bool.and_eq_true, beq_iff_eq, Array.all_eq_true_iff_forall_mem, decide_eq_true_eq] at hsi
      have hdi : ds[i]? = some ds[i] := List.getElem?_eq_getElem hin
      have hdst : o.dst = some ds[i] := by rw [hsi.1.1, hdi]
      have hun_i : listed.getD i false = false := by rw [← hget listed i hsz hio]; exact hnot
      refine wpOp_mono (fun a' w' h => ?_) (wpOp_of_list ho (hdue i o hin ho (fun i => listed.getD i false) a w hf (fun e he hb => hafter e he hb)))
      obtain ⟨v, rfl, hb, hv⟩ := h
      rw [hdst]
      have hcnt : ((List.range ds.length).filter fun j => !(listed.setIfInBounds i true).getD j true).length = m := by
        have e1 : ∀ j, j < ds.length → (!(listed.setIfInBounds i true).getD j true) = (!listed.getD j true && !(j == i)) := fun j hj => by
          by_cases hji : i = j
          · subst hji; simp [Array.getD_eq_getD_getElem?, show i < listed.size by omega]
          · rw [getD_set_ne true hji]
            simp [show ¬ j = i from fun e => hji e.symm]
        have e2 : (List.range ds.length).filter (fun j => !(listed.setIfInBounds i true).getD j true) = ((List.range ds.length).filter fun j => !listed.getD j true).filter fun j => !(j == i) := by
          rw [List.filter_filter]
          refine List.filter_congr fun j hj => ?_
          rw [e1 j (by simpa using hj), Bool.and_comm]
        have hmem : i ∈ (List.range ds.length).filter fun j => !listed.getD j true := List.mem_filter.2 ⟨by simpa using hin, by rw [hnot]; rfl⟩
        have hndf : ((List.range ds.length).filter fun j => !listed.getD j true).Nodup := List.nodup_range.sublist List.filter_sublist
        have e3 : ((List.range ds.length).filter fun j => !listed.getD j true).filter (fun j => !(j == i)) = ((List.range ds.length).filter fun j => !listed.getD j true).erase i := by
          rw [hndf.erase_eq_filter]
          rfl
        rw [e2, e3, List.length_erase_of_mem hmem, hc]
        rfl
      refine ih _ _ _ hcnt (by simpa using hsz) (fun t ht => ?_) ?_
      · rw [getD_set_ne false (by omega)]
        exact hoff t ht
      · have := hf.put hmono hnd hdi (hlt _ (List.getElem_mem hin)) hb hv
        refine ⟨this.below, this.defers, this.size, fun j d hj hl => this.val j d hj ?_, fun s hs => this.rest s fun j hj => ?_⟩
        · by_cases hji : i = j
          · simp [hji]
          · rw [getD_set_ne false hji] at hl
            simp [hl]
        · have h1 := hs j hj
          by_cases hji : i = j
          · subst hji
            have h2 : (listed.setIfInBounds i true).getD i false = true := by simp [Array.getD_eq_getD_getElem?, show i < listed.size by omega]
            rw [h2] at h1
            cases h1
          · rw [getD_set_ne false hji] at h1
            simp [h1, show ¬ j = i from fun e => hji e.symm]

/-- THE RULE. -/
theorem wp_region_freely {id : Nat} {ds : List Nat} {V : Nat → World → Value → Prop} {a0 : Act} {w0 : World} (hm : P.follows .mixedOrders = true) (hmono : ∀ i w w' v, V i w v → Below w.heap.size w w' → V i w' v)
    (hB : shapeB ops ds = true) (hlt : ds.all (fun d => decide (d < a0.tmps.size)) = true) (hdue : ∀ i o, i < ds.length → ops[i]? = some o → Due P ops Q ds V a0 w0 i o) {k : Nat} (hk : ds.length + k = ops.size)
    (htail : ∀ vals w, Below w0.heap.size w0 w → (∀ i d, ds[i]? = some d → V i w (vals d)) → wpAny P .any ops Q k (firstB ds.length ops.size) (putAll a0 ds vals) w) :
    (Code.region id ops true).wp P Q a0 w0 := by
  refine wp_region_any hm ?_
  rw [← hk]
  have hlt' : ∀ d ∈ ds, d < a0.tmps.size := fun d hd => by simpa using List.all_eq_true.1 hlt d hd
  refine freely_main hmono hB hlt' hdue htail ds.length _ a0 _ ?_ (by simp [hk]) (fun t _ => ?_) ⟨(Below.refl _ _).drew, rfl, rfl, fun i d _ hl => ?_, fun _ _ => rfl⟩
  · have : (List.range ds.length).filter (fun i => !(Array.replicate (ds.length + k) false).getD i true) = List.range ds.length := by
      refine List.filter_eq_self.2 fun i hi => ?_
      have : i < ds.length := by simpa using hi
      simp [Array.getD_eq_getD_getElem?, show i < ds.length + k by omega]
    rw [this]; simp
  · rcases Nat.lt_or_ge t (ds.length + k) with h | h
    · simp [Array.getD_eq_getD_getElem?, h]
    · simp [Array.getD_eq_getD_getElem?, Array.getElem?_eq_none (show (Array.replicate (ds.length + k) false).size ≤ t by simpa using h)]
  · exfalso
    rcases Nat.lt_or_ge i (ds.length + k) with h | h
    · simp [Array.getD_eq_getD_getElem?, h] at hl
    · simp [Array.getD_eq_getD_getElem?, Array.getElem?_eq_none (show (Array.replicate (ds.length + k) false).size ≤ i by simpa using h)] at hl
end
end Go.Proofs.YtkghlebfmggidaaDoor

/-! ## Owned -/
namespace Go.Proofs.YtkghlebfmggidaaDoor
open Go.RowKit

section
variable {P : Program} {ops : Array Oper} {Q : Exit → Act → World → Prop}

/-- The frame and the world while the operations come up: those that have, hold what they should. -/
structure Owned (ds : List Nat) (V : Nat → (Nat → Nat) → World → Value → Prop) (a0 : Act) (w0 : World) (listed : Nat → Bool) (a : Act) (w : World) (A : Nat → Nat) : Prop where
  old : ∀ b, b < w0.heap.size → A b = ds.length
  below : Below w0.heap.size w0 w
  defers : a.defers = a0.defers
  size : a.tmps.size = a0.tmps.size
  val : ∀ i d, ds[i]? = some d → listed i = true → V i A w (a.tmps.getD d undef)
  rest : ∀ s, (∀ i, ds[i]? = some s → listed i = false) → a.tmps[s]? = a0.tmps[s]?

theorem Owned.eval {ds : List Nat} {V : Nat → (Nat → Nat) → World → Value → Prop} {a0 : Act} {w0 : World} {listed : Nat → Bool} {a : Act} {w : World} {A : Nat → Nat} (h : Owned ds V a0 w0 listed a w A) {s : Nat} (hs : s ∉ ds) : a.eval (.tmp s) = a0.eval (.tmp s) := by
  have := h.rest s fun i hi => absurd (List.mem_of_getElem? hi) hs
  simp only [Act.eval, Array.getD_eq_getD_getElem?, this]

theorem Owned.put {ds : List Nat} {V : Nat → (Nat → Nat) → World → Value → Prop} {a0 : Act} {w0 : World} {listed : Nat → Bool} {a : Act} {w w' : World} {A A' : Nat → Nat} {i d : Nat} {v : Value} (h : Owned ds V a0 w0 listed a w A)
    (hmono : ∀ i A A' w w' v, V i A w v → Below w.heap.size w w' → (∀ b, b < w.heap.size → A' b = A b) → V i A' w' v) (hnd : ds.Nodup) (hd : ds[i]? = some d) (hlt : d < a0.tmps.size) (hb : Below w.heap.size w w') (hA : ∀ b, b < w.heap.size → A' b = A b) (hv : V i A' w' v) :
    Owned ds V a0 w0 (fun k => k == i || listed k) (a.put (some d) v) w' A' := by
  refine ⟨fun b hb' => (hA b (Nat.lt_of_lt_of_le hb' h.below.size)).trans (h.old b hb'), h.below.trans (hb.mono h.below.size), h.defers, by simpa [Act.put] using h.size, fun k e hk hl => ?_, fun s hs => ?_⟩
  · by_cases hki : k = i
    · subst hki
      obtain rfl := Option.some.inj (hd.symm.trans hk)
      have : d < a.tmps.size := by rw [h.size]; exact hlt
      simpa [Act.put, Array.getD_eq_getD_getElem?, this] using hv
    · have hne : d ≠ e := fun e' => hki ((List.getElem?_inj (List.getElem?_eq_some_iff.1 hk).1 hnd).1 (by rw [hk, hd, e']))
      have hl' : listed k = true := by simpa [hki] using hl
      have := hmono _ _ _ _ _ _ (h.val k e hk hl') hb hA
      simpa [Act.put, Array.getD_eq_getD_getElem?, Array.getElem?_setIfInBounds_ne hne] using this
  · have hne : d ≠ s := fun e' => by
      subst e'
      have := hs i hd
      simp at this
    have := h.rest s fun k hk => by
      have := hs k hk
      simp only [Bool.or_eq_false_iff] at this
      exact this.2
    simpa [Act.put, Array.getElem?_setIfInBounds_ne hne] using this

/-- One operation's due. -/
def DueOwn (P : Program) (ops : Array Oper) (Q : Exit → Act → World → Prop) (ds : List Nat) (V : Nat → (Nat → Nat) → World → Value → Prop) (a0 : Act) (w0 : World) (i : Nat) (o : Oper) : Prop :=
  ∀ listed a w A, Owned ds V a0 w0 listed a w A → (∀ e ∈ o.after, Region.binds .any e = true → listed e.on = true) →
    wpList P ops (Exit.then (fun a' w' => ∃ v, a' = a.put o.dst v ∧ Below w.heap.size w w' ∧ V i (fun b => if b < w.heap.size then A b else i) w' v) Q) [o] a w

theorem owned_main {ds : List Nat} {V : Nat → (Nat → Nat) → World → Value → Prop} {a0 : Act} {w0 : World} (hmono : ∀ i A A' w w' v, V i A w v → Below w.heap.size w w' → (∀ b, b < w.heap.size → A' b = A b) → V i A' w' v)
    (hB : shapeB ops ds = true) (hlt : ∀ d ∈ ds, d < a0.tmps.size) (hdue : ∀ i o, i < ds.length → ops[i]? = some o → DueOwn P ops Q ds V a0 w0 i o) {k : Nat}
    (htail : ∀ vals w A, Below w0.heap.size w0 w → (∀ b, b < w0.heap.size → A b = ds.length) → (∀ i d, ds[i]? = some d → V i A w (vals d)) → wpAny P .any ops Q k (firstB ds.length ops.size) (putAll a0 ds vals) w) :
    ∀ (m : Nat) (listed : Array Bool) (a : Act) (w : World) (A : Nat → Nat), ((List.range ds.length).filter fun i => !listed.getD i true).length = m → listed.size = ops.size → (∀ t, ds.length ≤ t → listed.getD t false = false) →
      Owned ds V a0 w0 (fun i => listed.getD i false) a w A → wpAny P .any ops Q (m + k) listed a w := by
  simp only [shapeB, Bool.and_eq_true, decide_eq_true_eq, List.all_eq_true, List.mem_range, Bool.or_eq_true] at hB
  obtain ⟨⟨⟨hnd, hle⟩, hsh⟩, hwait⟩ := hB
  have hget : ∀ (listed : Array Bool) i, listed.size = ops.size → i < ops.size → listed.getD i true = listed.getD i false := fun listed i hs hi => by
    simp [Array.getD_eq_getD_getElem?, hs ▸ hi, show i < listed.size by omega]
  intro m
  induction m with
  | zero =>
    intro listed a w A hc hsz hoff hf
    have hall : ∀ i, i < ds.length → listed.getD i false = true := fun i hi => by
      have h0 := List.eq_nil_of_length_eq_zero hc
      have := List.filter_eq_nil_iff.1 h0 i (by simpa using hi)
      rw [← hget listed i hsz (by omega)]
      simpa using this
    have hl : listed = firstB ds.length ops.size := by
      refine Array.ext_getElem? fun i => ?_
      by_cases hi : i < ops.size
      · have e1 : listed[i]? = some (listed.getD i false) := by simp [Array.getD_eq_getD_getElem?, show i < listed.size by omega]
        rw [e1]
        simp only [firstB, List.getElem?_toArray, List.getElem?_map, List.getElem?_range hi, Option.map_some]
        by_cases hn : i < ds.length
        · rw [hall i hn]; simp [hn]
        · rw [hoff i (by omega)]; simp [hn]
      · rw [Array.getElem?_eq_none (by omega)]
        simp [firstB, List.getElem?_eq_none (show (List.range ops.size).length ≤ i by simp; omega)]
    have ha : a = putAll a0 ds (fun s => a.tmps.getD s undef) := by
      obtain ⟨h1, h2, _⟩ := putAll_get (fun s => a.tmps.getD s undef) ds a0 0
      have ht : a.tmps = (putAll a0 ds (fun s => a.tmps.getD s undef)).tmps := by
        refine Array.ext_getElem? fun s => ?_
        rw [(putAll_get (fun s => a.tmps.getD s undef) ds a0 s).2.2]
        by_cases hs : s ∈ ds ∧ s < a0.tmps.size
        · rw [if_pos hs]
          simp [Array.getD_eq_getD_getElem?, show s < a.tmps.size by rw [hf.size]; exact hs.2]
        · rw [if_neg hs]
          by_cases hm : s ∈ ds
          · have : ¬ s < a0.tmps.size := fun h => hs ⟨hm, h⟩
            rw [Array.getElem?_eq_none (by rw [hf.size]; omega), Array.getElem?_eq_none (by omega)]
          · exact hf.rest s fun i hi => absurd (List.mem_of_getElem? hi) hm
      cases a
      have hd := hf.defers
      generalize putAll a0 ds _ = b at *
      cases b
      simp_all
    rw [hl, Nat.zero_add, ha]
    exact htail _ w A hf.below hf.old fun i d hi => hf.val i d hi (hall i (List.getElem?_eq_some_iff.1 hi).1)
  | succ m ih =>
    intro listed a w A hc hsz hoff hf
    have hun : ∃ i, i < ds.length ∧ listed.getD i false = false := by
      cases hl : (List.range ds.length).filter fun i => !listed.getD i true with
      | nil => rw [hl] at hc; simp at hc
      | cons i r =>
        have hi : i ∈ (List.range ds.length).filter fun i => !listed.getD i true := by rw [hl]; simp
        obtain ⟨h1, h2⟩ := List.mem_filter.1 hi
        have h1' : i < ds.length := by simpa using h1
        exact ⟨i, h1', by rw [← hget listed i hsz (by omega)]; simpa using h2⟩
    have hleast : ∃ i, i < ds.length ∧ listed.getD i false = false ∧ ∀ j, j < i → listed.getD j false = true := by
      obtain ⟨i, h1, h2⟩ := hun
      induction i using Nat.strongRecOn with
      | ind i ihi =>
        by_cases h : ∃ j, j < i ∧ listed.getD j false = false
        · obtain ⟨j, hj, hj2⟩ := h
          exact ihi j hj (by omega) hj2
        · exact ⟨i, h1, h2, fun j hj => by
            cases hb : listed.getD j false with
            | true => rfl
            | false => exact absurd ⟨j, hj, hb⟩ h⟩
    rw [show m + 1 + k = (m + k) + 1 by omega]
    refine ⟨fun h0 => ?_, fun i hi => ?_⟩
    · exfalso
      obtain ⟨i, h1, h2, h3⟩ := hleast
      have hsi := hsh i h1
      cases ho : ops[i]? with
      | none => rw [ho] at hsi; cases hsi
      | some o =>
        rw [ho] at hsi
        simp only [Bool.and_eq_true, Array.all_eq_true_iff_forall_mem, decide_eq_true_eq] at hsi
        have : i ∈ Region.ready .any ops listed := mem_ready.2 ⟨by rw [hget listed i hsz (by omega)]; exact h2, o, ho, fun e he _ => h3 e.on (hsi.2 e he)⟩
        rw [h0] at this
        cases this
    · obtain ⟨hnot, o, ho, hafter⟩ := mem_ready.1 hi
      have hio : i < ops.size := (Array.getElem?_eq_some_iff.1 ho).1
      have hin : i < ds.length := by
        rcases hwait i hio with h | h
        · exact h
        · exfalso
          obtain ⟨j, h1, h2⟩ := hun
          rw [ho] at h
          simp only [List.all_eq_true, List.mem_range] at h
          obtain ⟨e, he, hb⟩ := Array.any_eq_true'.1 (h j h1)
          simp only [Bool.and_eq_true, beq_iff_eq] at hb
          have := hafter e he hb.1
          rw [hb.2, h2] at this
          cases this
      have hsi := hsh i hin
      rw [ho] at hsi
      simp only [Bool.and_eq_true, beq_iff_eq, Array.all_eq_true_iff_forall_mem, decide_eq_true_eq] at hsi
      have hdi : ds[i]? = some ds[i] := List.getElem?_eq_getElem hin
      have hdst : o.dst = some ds[i] := by rw [hsi.1.1, hdi]
      have hun_i : listed.getD i false = false := by rw [← hget listed i hsz hio]; exact hnot
      refine wpOp_mono (fun a' w' h => ?_) (wpOp_of_list ho (hdue i o hin ho (fun i => listed.getD i false) a w A hf (fun e he hb => hafter e he hb)))
      obtain ⟨v, rfl, hb, hv⟩ := h
      rw [hdst]
      have hcnt : ((List.range ds.length).filter fun j => !(listed.setIfInBounds i true).getD j true).length = m := by
        have e1 : ∀ j, j < ds.length → (!(listed.setIfInBounds i true).getD j true) = (!listed.getD j true && !(j == i)) := fun j hj => by
          by_cases hji : i = j
          · subst hji; simp [Array.getD_eq_getD_getElem?, show i < listed.size by omega]
          · rw [getD_set_ne true hji]
            simp [show ¬ j = i from fun e => hji e.symm]
        have e2 : (List.range ds.length).filter (fun j => !(listed.setIfInBounds i true).getD j true) = ((List.range ds.length).filter fun j => !listed.getD j true).filter fun j => !(j == i) := by
          rw [List.filter_filter]
          refine List.filter_congr fun j hj => ?_
          rw [e1 j (by simpa using hj), Bool.and_comm]
        have hmem : i ∈ (List.range ds.length).filter fun j => !listed.getD j true := List.mem_filter.2 ⟨by simpa using hin, by rw [hnot]; rfl⟩
        have hndf : ((List.range ds.length).filter fun j => !listed.getD j true).Nodup := List.nodup_range.sublist List.filter_sublist
        have e3 : ((List.range ds.length).filter fun j => !listed.getD j true).filter (fun j => !(j == i)) = ((List.range ds.length).filter fun j => !listed.getD j true).erase i := by
          rw [hndf.erase_eq_filter]
          rfl
        rw [e2, e3, List.length_erase_of_mem hmem, hc]
        rfl
      refine ih _ _ _ (fun b => if b < w.heap.size then A b else i) hcnt (by simpa using hsz) (fun t ht => ?_) ?_
      · rw [getD_set_ne false (by omega)]
        exact hoff t ht
      · have := hf.put (A' := fun b => if b < w.heap.size then A b else i) hmono hnd hdi (hlt _ (List.getElem_mem hin)) hb (fun b hb => if_pos hb) hv
        refine ⟨this.old, this.below, this.defers, this.size, fun j d hj hl => this.val j d hj ?_, fun s hs => this.rest s fun j hj => ?_⟩
        · by_cases hji : i = j
          · simp [hji]
          · rw [getD_set_ne false hji] at hl
            simp [hl]
        · have h1 := hs j hj
          by_cases hji : i = j
          · subst hji
            have h2 : (listed.setIfInBounds i true).getD i false = true := by simp [Array.getD_eq_getD_getElem?, show i < listed.size by omega]
            rw [h2] at h1
            cases h1
          · rw [getD_set_ne false hji] at h1
            simp [h1, show ¬ j = i from fun e => hji e.symm]

/-- THE RULE. -/
theorem wp_region_owned {id : Nat} {ds : List Nat} {V : Nat → (Nat → Nat) → World → Value → Prop} {a0 : Act} {w0 : World} (hm : P.follows .mixedOrders = true) (hmono : ∀ i A A' w w' v, V i A w v → Below w.heap.size w w' → (∀ b, b < w.heap.size → A' b = A b) → V i A' w' v)
    (hB : shapeB ops ds = true) (hlt : ds.all (fun d => decide (d < a0.tmps.size)) = true) (hdue : ∀ i o, i < ds.length → ops[i]? = some o → DueOwn P ops Q ds V a0 w0 i o) {k : Nat} (hk : ds.length + k = ops.size)
    (htail : ∀ vals w A, Below w0.heap.size w0 w → (∀ b, b < w0.heap.size → A b = ds.length) → (∀ i d, ds[i]? = some d → V i A w (vals d)) → wpAny P .any ops Q k (firstB ds.length ops.size) (putAll a0 ds vals) w) :
    (Code.region id ops true).wp P Q a0 w0 := by
  refine wp_region_any hm ?_
  rw [← hk]
  have hlt' : ∀ d ∈ ds, d < a0.tmps.size := fun d hd => by simpa using List.all_eq_true.1 hlt d hd
  refine owned_main hmono hB hlt' hdue htail ds.length _ a0 _ (fun _ => ds.length) ?_ (by simp [hk]) (fun t _ => ?_) ⟨fun _ _ => rfl, (Below.refl _ _).drew, rfl, rfl, fun i d _ hl => ?_, fun _ _ => rfl⟩
  · have : (List.range ds.length).filter (fun i => !(Array.replicate (ds.length + k) false).getD i true) = List.range ds.length := by
      refine List.filter_eq_self.2 fun i hi => ?_
      have : i < ds.length := by simpa using hi
      simp [Array.getD_eq_getD_getElem?, show i < ds.length + k by omega]
    rw [this]; simp
  · rcases Nat.lt_or_ge t (ds.length + k) with h | h
    · simp [Array.getD_eq_getD_getElem?, h]
    · simp [Array.getD_eq_getD_getElem?, Array.getElem?_eq_none (show (Array.replicate (ds.length + k) false).size ≤ t by simpa using h)]
  · exfalso
    rcases Nat.lt_or_ge i (ds.length + k) with h | h
    · simp [Array.getD_eq_getD_getElem?, h] at hl
    · simp [Array.getD_eq_getD_getElem?, Array.getElem?_eq_none (show (Array.replicate (ds.length + k) false).size ≤ i by simpa using h)] at hl
end
end Go.Proofs.YtkghlebfmggidaaDoor
