/- The operations of a drawn region that makes trees: what each asks and what it yields. -/
import Derived.Test.YtgpmiflfgpnhaaaDoorAlgLaw
import Derived.Test.YtgpmiflfgpnhaaaDoorPick
import Derived.Great.BuildSlice
set_option linter.unusedSimpArgs false
set_option linter.unusedVariables false
namespace Go.Proofs.YtgpmiflfgpnhaaaDoor
open Go.RowKit

/-! ### A drawn region whose first operations make memory, in any order -/

/-- The slots ds of a frame hold vals. -/
def putAll (a : Act) (ds : List Nat) (vals : Nat → Value) : Act := ds.foldl (fun a d => a.put (some d) (vals d)) a

theorem putAll_get (vals : Nat → Value) : ∀ (ds : List Nat) (a : Act) (s : Nat), (putAll a ds vals).defers = a.defers ∧ (putAll a ds vals).tmps.size = a.tmps.size ∧
    (putAll a ds vals).tmps[s]? = if s ∈ ds ∧ s < a.tmps.size then some (vals s) else a.tmps[s]?
  | [], a, s => ⟨rfl, rfl, by simp [putAll]⟩
  | d :: ds, a, s => by
    obtain ⟨h1, h2, h3⟩ := putAll_get vals ds (a.put (some d) (vals d)) s
    refine ⟨h1, h2.trans (by simp [Act.put]), ?_⟩
    show (putAll (a.put (some d) (vals d)) ds vals).tmps[s]? = _
    rw [h3]
    simp only [Act.put, Array.size_setIfInBounds, List.mem_cons]
    by_cases hs : s < a.tmps.size
    · by_cases hm : s ∈ ds
      · simp [hs, hm]
      · by_cases hd : s = d
        · subst hd; simp [hs, hm]
        · rw [if_neg (fun h => hm h.1), if_neg (fun h => h.1.elim hd hm)]
          exact Array.getElem?_setIfInBounds_ne (Ne.symm hd)
    · have hn : (a.tmps.setIfInBounds d (vals d))[s]? = none := Array.getElem?_eq_none (by simpa using hs)
      rw [if_neg (fun h => hs h.2), if_neg (fun h => hs h.2), hn, Array.getElem?_eq_none (by omega)]

section
variable {P : Program} {ops : Array Oper} {Q : Exit → Act → World → Prop}

/-- The frame and the world while the operations come up: those that have, hold what they should. -/
structure Freely (ds : List Nat) (V : Nat → World → Value → Prop) (a0 : Act) (w0 : World) (listed : Nat → Bool) (a : Act) (w : World) : Prop where
  below : Below w0.heap.size w0 w
  defers : a.defers = a0.defers
  size : a.tmps.size = a0.tmps.size
  val : ∀ i d, ds[i]? = some d → listed i = true → V i w (a.tmps.getD d undef)
  rest : ∀ s, (∀ i, ds[i]? = some s → listed i = false) → a.tmps[s]? = a0.tmps[s]?

theorem Freely.eval {ds : List Nat} {V : Nat → World → Value → Prop} {a0 : Act} {w0 : World} {listed : Nat → Bool} {a : Act} {w : World} (h : Freely ds V a0 w0 listed a w) {s : Nat} (hs : s ∉ ds) : a.eval (.tmp s) = a0.eval (.tmp s) := by
  have := h.rest s fun i hi => absurd (List.mem_of_getElem? hi) hs
  simp only [Act.eval, Array.getD_eq_getD_getElem?, this]

theorem Freely.put {ds : List Nat} {V : Nat → World → Value → Prop} {a0 : Act} {w0 : World} {listed : Nat → Bool} {a : Act} {w w' : World} {i d : Nat} {v : Value} (h : Freely ds V a0 w0 listed a w)
    (hmono : ∀ i w w' v, V i w v → Below w.heap.size w w' → V i w' v) (hnd : ds.Nodup) (hd : ds[i]? = some d) (hlt : d < a0.tmps.size) (hb : Below w.heap.size w w') (hv : V i w' v) :
    Freely ds V a0 w0 (fun k => k == i || listed k) (a.put (some d) v) w' := by
  refine ⟨h.below.trans (hb.mono h.below.size), h.defers, by simpa [Act.put] using h.size, fun k e hk hl => ?_, fun s hs => ?_⟩
  · by_cases hki : k = i
    · subst hki
      obtain rfl := Option.some.inj (hd.symm.trans hk)
      have : d < a.tmps.size := by rw [h.size]; exact hlt
      simpa [Act.put, Array.getD_eq_getD_getElem?, this] using hv
    · have hne : d ≠ e := fun e' => hki ((List.getElem?_inj (List.getElem?_eq_some_iff.1 hk).1 hnd).1 (by rw [hk, hd, e']))
      have hl' : listed k = true := by simpa [hki] using hl
      have := hmono _ _ _ _ (h.val k e hk hl') hb
      simpa [Act.put, Array.getD_eq_getD_getElem?, Array.getElem?_setIfInBounds_ne hne] using this
  · have hne : d ≠ s := fun e' => by
      subst e'
      have := hs i hd
      simp at this
    have := h.rest s fun k hk => by
      have := hs k hk
      simp only [Bool.or_eq_false_iff] at this
      exact this.2
    simpa [Act.put, Array.getElem?_setIfInBounds_ne hne] using this

/-- What is asked of the region's shape: slots apart, no guards; edges run back; the others wait for all of the first. -/
def shapeB (ops : Array Oper) (ds : List Nat) : Bool :=
  decide ds.Nodup && decide (ds.length ≤ ops.size) &&
  (List.range ds.length).all (fun i => match ops[i]? with | some o => o.dst == ds[i]? && o.guard.isNone && o.after.all (fun e => decide (e.on < i)) | none => false) &&
  (List.range ops.size).all (fun t => decide (t < ds.length) || (match ops[t]? with | some o => (List.range ds.length).all (fun i => o.after.any (fun e => Region.binds .any e && e.on == i)) | none => true))

def firstB (n m : Nat) : Array Bool := ((List.range m).map fun i => decide (i < n)).toArray

/-- One operation's due. -/
def Due (P : Program) (ops : Array Oper) (Q : Exit → Act → World → Prop) (ds : List Nat) (V : Nat → World → Value → Prop) (a0 : Act) (w0 : World) (i : Nat) (o : Oper) : Prop :=
  ∀ listed a w, Freely ds V a0 w0 listed a w → (∀ e ∈ o.after, Region.binds .any e = true → listed e.on = true) →
    wpList P ops (Exit.then (fun a' w' => ∃ v, a' = a.put o.dst v ∧ Below w.heap.size w w' ∧ V i w' v) Q) [o] a w

theorem freely_main {ds : List Nat} {V : Nat → World → Value → Prop} {a0 : Act} {w0 : World} (hmono : ∀ i w w' v, V i w v → Below w.heap.size w w' → V i w' v)
    (hB : shapeB ops ds = true) (hlt : ∀ d ∈ ds, d < a0.tmps.size) (hdue : ∀ i o, i < ds.length → ops[i]? = some o → Due P ops Q ds V a0 w0 i o) {k : Nat}
    (htail : ∀ vals w, Below w0.heap.size w0 w → (∀ i d, ds[i]? = some d → V i w (vals d)) → wpAny P .any ops Q k (firstB ds.length ops.size) (putAll a0 ds vals) w) :
    ∀ (m : Nat) (listed : Array Bool) (a : Act) (w : World), ((List.range ds.length).filter fun i => !listed.getD i true).length = m → listed.size = ops.size → (∀ t, ds.length ≤ t → listed.getD t false = false) →
      Freely ds V a0 w0 (fun i => listed.getD i false) a w → wpAny P .any ops Q (m + k) listed a w := by
  simp only [shapeB, Bool.and_eq_true, decide_eq_true_eq, List.all_eq_true, List.mem_range, Bool.or_eq_true] at hB
  obtain ⟨⟨⟨hnd, hle⟩, hsh⟩, hwait⟩ := hB
  have hget : ∀ (listed : Array Bool) i, listed.size = ops.size → i < ops.size → listed.getD i true = listed.getD i false := fun listed i hs hi => by
    simp [Array.getD_eq_getD_getElem?, hs ▸ hi, show i < listed.size by omega]
  intro m
  induction m with
  | zero =>
    intro listed a w hc hsz hoff hf
    have hall : ∀ i, i < ds.length → listed.getD i false = true := fun i hi => by
      have h0 := List.eq_nil_of_length_eq_zero hc
      have := List.filter_eq_nil_iff.1 h0 i (by simpa using hi)
      rw [← hget listed i hsz (by omega)]
      simpa using this
    have hl : listed = firstB ds.length ops.size := by
      refine Array.ext_getElem? fun i => ?_
      by_cases hi : i < ops.size
      · have e1 : listed[i]? = some (listed.getD i false) := by simp [Array.getD_eq_getD_getElem?, show i < listed.size by omega]
        rw [e1]
        simp only [firstB, List.getElem?_toArray, List.getElem?_map, List.getElem?_range hi, Option.map_some]
        by_cases hn : i < ds.length
        · rw [hall i hn]; simp [hn]
        · rw [hoff i (by omega)]; simp [hn]
      · rw [Array.getElem?_eq_none (by omega)]
        simp [firstB, List.getElem?_eq_none (show (List.range ops.size).length ≤ i by simp; omega)]
    have ha : a = putAll a0 ds (fun s => a.tmps.getD s undef) := by
      obtain ⟨h1, h2, _⟩ := putAll_get (fun s => a.tmps.getD s undef) ds a0 0
      have ht : a.tmps = (putAll a0 ds (fun s => a.tmps.getD s undef)).tmps := by
        refine Array.ext_getElem? fun s => ?_
        rw [(putAll_get (fun s => a.tmps.getD s undef) ds a0 s).2.2]
        by_cases hs : s ∈ ds ∧ s < a0.tmps.size
        · rw [if_pos hs]
          simp [Array.getD_eq_getD_getElem?, show s < a.tmps.size by rw [hf.size]; exact hs.2]
        · rw [if_neg hs]
          by_cases hm : s ∈ ds
          · have : ¬ s < a0.tmps.size := fun h => hs ⟨hm, h⟩
            rw [Array.getElem?_eq_none (by rw [hf.size]; omega), Array.getElem?_eq_none (by omega)]
          · exact hf.rest s fun i hi => absurd (List.mem_of_getElem? hi) hm
      cases a
      have hd := hf.defers
      generalize putAll a0 ds _ = b at *
      cases b
      simp_all
    rw [hl, Nat.zero_add, ha]
    exact htail _ w hf.below fun i d hi => hf.val i d hi (hall i (List.getElem?_eq_some_iff.1 hi).1)
  | succ m ih =>
    intro listed a w hc hsz hoff hf
    have hun : ∃ i, i < ds.length ∧ listed.getD i false = false := by
      cases hl : (List.range ds.length).filter fun i => !listed.getD i true with
      | nil => rw [hl] at hc; simp at hc
      | cons i r =>
        have hi : i ∈ (List.range ds.length).filter fun i => !listed.getD i true := by rw [hl]; simp
        obtain ⟨h1, h2⟩ := List.mem_filter.1 hi
        have h1' : i < ds.length := by simpa using h1
        exact ⟨i, h1', by rw [← hget listed i hsz (by omega)]; simpa using h2⟩
    have hleast : ∃ i, i < ds.length ∧ listed.getD i false = false ∧ ∀ j, j < i → listed.getD j false = true := by
      obtain ⟨i, h1, h2⟩ := hun
      induction i using Nat.strongRecOn with
      | ind i ihi =>
        by_cases h : ∃ j, j < i ∧ listed.getD j false = false
        · obtain ⟨j, hj, hj2⟩ := h
          exact ihi j hj (by omega) hj2
        · exact ⟨i, h1, h2, fun j hj => by
            cases hb : listed.getD j false with
            | true => rfl
            | false => exact absurd ⟨j, hj, hb⟩ h⟩
    rw [show m + 1 + k = (m + k) + 1 by omega]
    refine ⟨fun h0 => ?_, fun i hi => ?_⟩
    · exfalso
      obtain ⟨i, h1, h2, h3⟩ := hleast
      have hsi := hsh i h1
      cases ho : ops[i]? with
      | none => rw [ho] at hsi; cases hsi
      | some o =>
        rw [ho] at hsi
        simp only [Bool.and_eq_true, Array.all_eq_true_iff_forall_mem, decide_eq_true_eq] at hsi
        have : i ∈ Region.ready .any ops listed := mem_ready.2 ⟨by rw [hget listed i hsz (by omega)]; exact h2, o, ho, fun e he _ => h3 e.on (hsi.2 e he)⟩
        rw [h0] at this
        cases this
    · obtain ⟨hnot, o, ho, hafter⟩ := mem_ready.1 hi
      have hio : i < ops.size := (Array.getElem?_eq_some_iff.1 ho).1
      have hin : i < ds.length := by
        rcases hwait i hio with h | h
        · exact h
        · exfalso
          obtain ⟨j, h1, h2⟩ := hun
          rw [ho] at h
          simp only [List.all_eq_true, List.mem_range] at h
          obtain ⟨e, he, hb⟩ := Array.any_eq_true'.1 (h j h1)
          simp only [Bool.and_eq_true, beq_iff_eq] at hb
          have := hafter e he hb.1
          rw [hb.2, h2] at this
          cases this
      have hsi := hsh i hin
      rw [ho] at hsi
      simp only [Bool.and_eq_true, beq_iff_eq, Array.all_eq_true_iff_forall_mem, decide_eq_true_eq] at hsi
      have hdi : ds[i]? = some ds[i] := List.getElem?_eq_getElem hin
      have hdst : o.dst = some ds[i] := by rw [hsi.1.1, hdi]
      have hun_i : listed.getD i false = false := by rw [← hget listed i hsz hio]; exact hnot
      refine wpOp_mono (fun a' w' h => ?_) (wpOp_of_list ho (hdue i o hin ho (fun i => listed.getD i false) a w hf (fun e he hb => hafter e he hb)))
      obtain ⟨v, rfl, hb, hv⟩ := h
      rw [hdst]
      have hcnt : ((List.range ds.length).filter fun j => !(listed.setIfInBounds i true).getD j true).length = m := by
        have e1 : ∀ j, j < ds.length → (!(listed.setIfInBounds i true).getD j true) = (!listed.getD j true && !(j == i)) := fun j hj => by
          by_cases hji : i = j
          · subst hji; simp [Array.getD_eq_getD_getElem?, show i < listed.size by omega]
          · rw [getD_set_ne true hji]
            simp [show ¬ j = i from fun e => hji e.symm]
        have e2 : (List.range ds.length).filter (fun j => !(listed.setIfInBounds i true).getD j true) = ((List.range ds.length).filter fun j => !listed.getD j true).filter fun j => !(j == i) := by
          rw [List.filter_filter]
          refine List.filter_congr fun j hj => ?_
          rw [e1 j (by simpa using hj), Bool.and_comm]
        have hmem : i ∈ (List.range ds.length).filter fun j => !listed.getD j true := List.mem_filter.2 ⟨by simpa using hin, by rw [hnot]; rfl⟩
        have hndf : ((List.range ds.length).filter fun j => !listed.getD j true).Nodup := List.nodup_range.sublist List.filter_sublist
        have e3 : ((List.range ds.length).filter fun j => !listed.getD j true).filter (fun j => !(j == i)) = ((List.range ds.length).filter fun j => !listed.getD j true).erase i := by
          rw [hndf.erase_eq_filter]
          rfl
        rw [e2, e3, List.length_erase_of_mem hmem, hc]
        rfl
      refine ih _ _ _ hcnt (by simpa using hsz) (fun t ht => ?_) ?_
      · rw [getD_set_ne false (by omega)]
        exact hoff t ht
      · have := hf.put hmono hnd hdi (hlt _ (List.getElem_mem hin)) hb hv
        refine ⟨this.below, this.defers, this.size, fun j d hj hl => this.val j d hj ?_, fun s hs => this.rest s fun j hj => ?_⟩
        · by_cases hji : i = j
          · simp [hji]
          · rw [getD_set_ne false hji] at hl
            simp [hl]
        · have h1 := hs j hj
          by_cases hji : i = j
          · subst hji
            have h2 : (listed.setIfInBounds i true).getD i false = true := by simp [Array.getD_eq_getD_getElem?, show i < listed.size by omega]
            rw [h2] at h1
            cases h1
          · rw [getD_set_ne false hji] at h1
            simp [h1, show ¬ j = i from fun e => hji e.symm]

/-- THE RULE. -/
theorem wp_region_freely {id : Nat} {ds : List Nat} {V : Nat → World → Value → Prop} {a0 : Act} {w0 : World} (hm : P.follows .mixedOrders = true) (hmono : ∀ i w w' v, V i w v → Below w.heap.size w w' → V i w' v)
    (hB : shapeB ops ds = true) (hlt : ds.all (fun d => decide (d < a0.tmps.size)) = true) (hdue : ∀ i o, i < ds.length → ops[i]? = some o → Due P ops Q ds V a0 w0 i o) {k : Nat} (hk : ds.length + k = ops.size)
    (htail : ∀ vals w, Below w0.heap.size w0 w → (∀ i d, ds[i]? = some d → V i w (vals d)) → wpAny P .any ops Q k (firstB ds.length ops.size) (putAll a0 ds vals) w) :
    (Code.region id ops true).wp P Q a0 w0 := by
  refine wp_region_any hm ?_
  rw [← hk]
  have hlt' : ∀ d ∈ ds, d < a0.tmps.size := fun d hd => by simpa using List.all_eq_true.1 hlt d hd
  refine freely_main hmono hB hlt' hdue htail ds.length _ a0 _ ?_ (by simp [hk]) (fun t _ => ?_) ⟨(Below.refl _ _).drew, rfl, rfl, fun i d _ hl => ?_, fun _ _ => rfl⟩
  · have : (List.range ds.length).filter (fun i => !(Array.replicate (ds.length + k) false).getD i true) = List.range ds.length := by
      refine List.filter_eq_self.2 fun i hi => ?_
      have : i < ds.length := by simpa using hi
      simp [Array.getD_eq_getD_getElem?, show i < ds.length + k by omega]
    rw [this]; simp
  · rcases Nat.lt_or_ge t (ds.length + k) with h | h
    · simp [Array.getD_eq_getD_getElem?, h]
    · simp [Array.getD_eq_getD_getElem?, Array.getElem?_eq_none (show (Array.replicate (ds.length + k) false).size ≤ t by simpa using h)]
  · exfalso
    rcases Nat.lt_or_ge i (ds.length + k) with h | h
    · simp [Array.getD_eq_getD_getElem?, h] at hl
    · simp [Array.getD_eq_getD_getElem?, Array.getElem?_eq_none (show (Array.replicate (ds.length + k) false).size ≤ i by simpa using h)] at hl
end


inductive Kd | kt (t : T) | kl (l : List T) | kp (t u : T) | kall (l : List (T × T))

def IsTree (t : T) (w : World) (v : Value) : Prop := ∃ B c, v = .agg (t.hd.cells (.slice B t.subs.length c)).toArray ∧ T.In w (· < w.heap.size) t B
def IsPair (t u : T) (w : World) (v : Value) : Prop :=
  ∃ B c C d, v = .agg (t.hd.cells (.slice B t.subs.length c) ++ u.hd.cells (.slice C u.subs.length d)).toArray ∧ T.In w (· < w.heap.size) t B ∧ T.In w (· < w.heap.size) u C
def Kd.At : Kd → World → Value → Prop
  | .kt t, w, v => IsTree t w v
  | .kl l, w, v => ∃ g, v = .slice (some ⟨g, 0, none⟩) l.length l.length ∧ TL.In w (· < w.heap.size) l (some ⟨g, 0, none⟩)
  | .kp t u, w, v => IsPair t u w v
  | .kall l, w, v => ∃ g, v = .slice (some ⟨g, 0, none⟩) l.length l.length ∧ PairsIn w g l
def kdV (kinds : List Kd) (i : Nat) (w : World) (v : Value) : Prop := ∀ k, kinds[i]? = some k → k.At w v

theorem Kd.At.next : ∀ {k : Kd} {w w' : World} {v : Value}, k.At w v → Below w.heap.size w w' → k.At w' v
  | .kt t, _, _, _, ⟨B, c, h1, h2⟩, hb => ⟨B, c, h1, h2.next hb⟩
  | .kl l, _, _, _, ⟨g, h1, h2⟩, hb => ⟨g, h1, (show T.In _ _ (.mk ⟨0, 0, 0, 0, 0, 0, 0, 0, false⟩ l) _ from h2).next hb⟩
  | .kp t u, _, _, _, ⟨B, c, C, d, h1, h2, h3⟩, hb => ⟨B, c, C, d, h1, h2.next hb, h3.next hb⟩
  | .kall l, _, _, _, ⟨g, h1, h2⟩, hb => ⟨g, h1, h2.next hb⟩

inductive Sp | ld (x : Nat) | lst (js : List Nat) | seq (j : Nat) | alt (j : Nat) | seq0 | alt0 | rep (j : Nat) (mn mx : Int) | pr (j k : Nat) | al (js : List Nat)

def Sp.deps : Sp → List Nat
  | .ld _ | .seq0 | .alt0 => []
  | .lst js | .al js => js
  | .seq j | .alt j | .rep j _ _ => [j]
  | .pr j k => [j, k]
/-- A node's box as the region finds it. -/
def Box (a0 : Act) (w0 : World) (x : Nat) (t : T) : Prop :=
  ∃ g A c, a0.eval (.tmp x) = .pointer (some ⟨g, 0, none⟩) ∧ Blk w0 g 52 (t.hd.cells (.slice A t.subs.length c)).toArray ∧ T.In w0 (· < w0.heap.size) t A

def AllK {α : Type} (kinds : List Kd) (f : α → Kd) : List Nat → List α → Prop
  | [], [] => True
  | j :: js, x :: xs => kinds[j]? = some (f x) ∧ AllK kinds f js xs
  | _, _ => False

def Agree (kinds : List Kd) (a0 : Act) (w0 : World) (i : Nat) : Sp → Prop
  | .ld x => ∃ t, kinds[i]? = some (.kt t) ∧ Box a0 w0 x t
  | .lst js => ∃ l, kinds[i]? = some (.kl l) ∧ l ≠ [] ∧ l.length ≤ 1000 ∧ AllK kinds Kd.kt js l
  | .seq j => ∃ l, kinds[i]? = some (.kt (T.seq l)) ∧ kinds[j]? = some (.kl l) ∧ TL.nodes l ≤ 1000000
  | .alt j => ∃ l, kinds[i]? = some (.kt (T.alt l)) ∧ kinds[j]? = some (.kl l) ∧ TL.nodes l ≤ 1000000
  | .seq0 => kinds[i]? = some (.kt (T.seq []))
  | .alt0 => kinds[i]? = some (.kt (T.alt []))
  | .rep j mn mx => ∃ t, kinds[i]? = some (.kt (trep t mn mx)) ∧ kinds[j]? = some (.kt t) ∧ t.nodes ≤ 1000000
  | .pr j k => ∃ t u, kinds[i]? = some (.kp t u) ∧ kinds[j]? = some (.kt t) ∧ kinds[k]? = some (.kt u)
  | .al js => ∃ l, kinds[i]? = some (.kall l) ∧ l ≠ [] ∧ l.length ≤ 1000 ∧ AllK kinds (fun p : T × T => Kd.kp p.1 p.2) js l

theorem AllK.length {α : Type} {kinds : List Kd} {f : α → Kd} : ∀ {js : List Nat} {xs : List α}, AllK kinds f js xs → js.length = xs.length
  | [], [], _ => rfl
  | _ :: _, _ :: _, h => congrArg (· + 1) h.2.length
theorem AllK.get {α : Type} {kinds : List Kd} {f : α → Kd} : ∀ {js : List Nat} {xs : List α} {k : Nat} {x : α}, AllK kinds f js xs → xs[k]? = some x → ∃ j, js[k]? = some j ∧ kinds[j]? = some (f x)
  | [], [], _, _, _, e => by simp at e
  | j :: js, x :: xs, 0, y, h, e => by obtain rfl : x = y := by simpa using e
                                       exact ⟨j, rfl, h.1⟩
  | j :: js, x :: xs, k + 1, y, h, e => h.2.get (by simpa using e)

/-- One call that hands back a new tree. -/
theorem due_fresh {ops : Array Oper} {Q : Exit → Act → World → Prop} {kinds : List Kd} {i : Nat} {o : Oper} {a : Act} {w : World} (hg : o.guard = none) (f : FuncId) (args : Array Value) (t : T)
    (hrun : (execOp a.eval o).run Tryd.prog w = .ok (.enter f args) w) (hk : kinds[i]? = some (.kt t)) (hc : Calls Tryd.prog f args w (Fresh t w)) :
    wpList Tryd.prog ops (Exit.then (fun a' w' => ∃ v, a' = a.put o.dst v ∧ Below w.heap.size w w' ∧ kdV kinds i w' v) Q) [o] a w := by
  refine wpList_plain hg fun K hK => ?_
  unfold Oper.wp
  rw [hrun, Oper.upon_enter]
  refine hc.mono fun e w'' hh => ?_
  obtain ⟨B, c, bs, rfl, hown, _, hfr, hb⟩ := hh
  refine hK _ _ ⟨_, rfl, hb, fun k hk' => ?_⟩
  obtain rfl := Option.some.inj (hk.symm.trans hk')
  exact ⟨B, c, rfl, hown.in_ (ok := (· < w''.heap.size)) fun b hb => (hfr b hb).2⟩

/-- The cells of values side by side. -/
theorem TL.In.of_cells {w : World} {g : Nat} : ∀ (l : List T) (vs : List Value) (off : Nat), vs.length = l.length →
    (∀ (k : Nat) (t : T), l[k]? = some t → ∃ v, vs[k]? = some v ∧ IsTree t w v) → (∀ (k : Nat) (v : Value), vs[k]? = some v → CellsAt w ⟨g, off + k * 10, none⟩ v.cells.toList) → g < w.heap.size → TL.In w (· < w.heap.size) l (some ⟨g, off, none⟩)
  | [], _, _, _, _, _, _ => trivial
  | t :: l, [], _, hl, _, _, _ => by simp at hl
  | t :: l, v :: vs, off, hl, h1, h2, hg => by
    obtain ⟨v', e, B, c, h3, h4⟩ := h1 0 t rfl
    obtain rfl : v = v' := by simpa using e
    refine ⟨g, off, B, c, rfl, hg, ?_, h4, TL.In.of_cells l vs (off + 10) (by simpa using hl) (fun k u hk => h1 (k + 1) u (by simpa using hk)) (fun k u hk => ?_) hg⟩
    · have := h2 0 v rfl
      rw [h3] at this
      simpa [Value.cells] using this
    · have := h2 (k + 1) u (by simpa using hk)
      rwa [show off + (k + 1) * 10 = off + 10 + k * 10 by omega] at this

theorem parts_tmp (a : Act) (b : Nat) : ∀ (js : List Nat) (s : Nat), ((js.zipIdx s).map fun x => ((x.2, Operand.tmp (x.1 + b)) : Nat × Operand)).map (fun x => (x.1, a.eval x.2)) = ((js.map fun j => a.eval (.tmp (j + b))).zipIdx s).map fun x => (x.2, x.1) := by
  intro js s
  rw [List.zipIdx_map, List.map_map, List.map_map]
  rfl

theorem flat_cells {s : Nat} : ∀ (vs : List Value), (∀ v ∈ vs, v.cells.size = s) → ∀ k v, vs[k]? = some v → ∀ j u, v.cells.toList[j]? = some u → (vs.flatMap fun (v : Value) => v.cells.toList)[k * s + j]? = some u
  | [], _, k, v, h, _, _, _ => by simp at h
  | x :: vs, hs, 0, v, h, j, u, hj => by
    obtain rfl : x = v := by simpa using h
    rw [List.flatMap_cons, List.getElem?_append_left (by have := (List.getElem?_eq_some_iff.1 hj).1; omega)]
    simpa using hj
  | x :: vs, hs, k + 1, v, h, j, u, hj => by
    have hx : x.cells.toList.length = s := by simpa using hs x List.mem_cons_self
    rw [List.flatMap_cons, List.getElem?_append_right (by rw [hx, Nat.add_mul]; omega), hx]
    have := flat_cells vs (fun v hv => hs v (List.mem_cons_of_mem _ hv)) k v (by simpa using h) j u hj
    rwa [show (k + 1) * s + j - s = k * s + j by rw [Nat.add_mul]; omega]

theorem Tryd.underNodes : Tryd.prog.underlying 50 = some (.slice 52) := by kernel_rfl

theorem built_arr {P : Program} {t e : TypeId} {n : Nat} {it ie : TypeInfo} {z : Value} {parts : List (Nat × Value)} (hit : P.info? t = some it) (hu : P.underlying t = some (.array n e)) (hz : it.zero = some z) (hie : P.info? e = some ie) :
    P.built t parts = Instr.fill (fun i => some (i * ie.size, ie.size)) z.cells parts := by
  unfold Program.built
  simp only [hit, hu, hz, hie]

/-- Values of s cells go side by side into a new block. -/
theorem run_build_values {o : Oper} {a : Act} {w : World} {ops : Array Oper} {Q : Exit → Act → World → Prop} (hg : o.guard = none) (t e s b : Nat) (js : List Nat) (ho : o.op = .buildSlice t js.length ((js.zipIdx 0).map fun x => (x.2, Operand.tmp (x.1 + b))).toArray)
    (hu : Tryd.prog.underlying t = some (.slice e)) (hi : (Tryd.prog.info? e).map (fun i => (i.zero.map (·.cells.size), i.size)) = some (some s, s)) (hs : 0 < s) (hs2 : s ≤ 100) (hn : js ≠ []) (hl : js.length ≤ 1000)
    (hv : ∀ j ∈ js, (a.eval (.tmp (j + b))).cells.size = s)
    (h : Q .normal (a.put o.dst (.slice (some ⟨w.heap.size, 0, none⟩) js.length js.length)) (w.alloc (.cells ((js.map fun j => a.eval (.tmp (j + b))).flatMap fun (v : Value) => v.cells.toList).toArray e))) : wpList Tryd.prog ops Q [o] a w := by
  cases hie : Tryd.prog.info? e with
  | none => simp [hie] at hi
  | some ie =>
    rw [hie] at hi
    simp only [Option.map_some, Option.some.injEq, Prod.mk.injEq] at hi
    cases hz : ie.zero with
    | none => simp [hz] at hi
    | some z =>
      rw [hz] at hi
      obtain ⟨h1, h2⟩ := hi
      have hpos : 0 < js.length := List.length_pos_iff.2 hn
      have hmul : js.length * s ≤ 1000 * 100 := Nat.mul_le_mul hl hs2
      have hmul0 : 0 < js.length * s := Nat.mul_pos hpos hs
      refine wpList_buildSlice hg t e js.length _ ho ((js.map fun j => a.eval (.tmp (j + b))).flatMap fun (v : Value) => v.cells.toList).toArray ie z hu hie hz (by rw [h2]; omega) (by rw [h2]; omega) ?_ h
      rw [h2, Array.toList_map]
      have := parts_tmp a b js 0
      simp only [List.toList_toArray] at *
      rw [this]
      refine Great.fill_whole hs _ _ (fun v hv' => ?_) (by simp)
      obtain ⟨j, hj, rfl⟩ := List.mem_map.1 hv'
      exact hv j hj

end Go.Proofs.YtgpmiflfgpnhaaaDoor
