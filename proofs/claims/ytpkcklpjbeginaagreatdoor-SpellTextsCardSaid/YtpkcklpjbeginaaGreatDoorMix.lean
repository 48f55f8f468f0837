/- A region that draws its order and also writes: an operation that yields one value in every world that meets S may be taken first, S being held only as long as none of the operations 'tail' has come up; each of these waits (through others) for the operation taken. -/
import Derived.Test.YtpkcklpjbeginaaGreatDoorOnly
import Derived.OrdersHeld
import Derived.KernelRfl
namespace Go.Proofs.YtpkcklpjbeginaaGreatDoor

section
variable {P : Program} {ops : Array Oper} {Q : Exit → Act → World → Prop} {md : Region.Mode} {S : World → Prop} {tail : List Nat}

def headB (tail : List Nat) (listed : Array Bool) : Bool := tail.all fun t => !listed.getD t false

def wpAnyT (P : Program) (md : Region.Mode) (ops : Array Oper) (Q : Exit → Act → World → Prop) (S : World → Prop) (tail : List Nat) : Nat → Array Bool → Act → World → Prop
  | 0, listed, a, w => Region.ready md ops listed = [] ∧ Q .normal a w
  | fuel + 1, listed, a, w =>
    (Region.ready md ops listed = [] → Q .normal a w) ∧
    ∀ i ∈ Region.ready md ops listed, wpOp P ops Q i (fun a' w' => (headB tail (listed.setIfInBounds i true) = true → S w') ∧ wpAnyT P md ops Q S tail fuel (listed.setIfInBounds i true) a' w') a w

theorem wpAny_of_T : ∀ (fuel : Nat) (listed : Array Bool) (a : Act) (w : World), wpAnyT P md ops Q S tail fuel listed a w → wpAny P md ops Q fuel listed a w
  | 0, _, _, _, h => h
  | fuel + 1, _, _, _, h => ⟨h.1, fun i hi => wpOp_mono (fun a' w' h' => wpAny_of_T fuel _ a' w' h'.2) (h.2 i hi)⟩

/-- What has come up has come up behind what it waits for. -/
def Closed (md : Region.Mode) (ops : Array Oper) (listed : Array Bool) : Prop :=
  ∀ j oj, ops[j]? = some oj → listed.getD j false = true → ∀ e ∈ oj.after, Region.binds md e = true → listed.getD e.on false = true

theorem Closed.set {listed : Array Bool} {i : Nat} (h : Closed md ops listed) (hi : i ∈ Region.ready md ops listed) : Closed md ops (listed.setIfInBounds i true) := by
  obtain ⟨_, oi, hoi, hall⟩ := mem_ready.1 hi
  intro j oj hj hl e he hb
  by_cases hij : i = j
  · subst hij
    have : oj = oi := Option.some.inj (hj.symm.trans hoi)
    subst this
    exact getD_set_true (hall e he hb)
  · rw [getD_set_ne false hij] at hl
    exact getD_set_true (h j oj hj hl e he hb)

/-- j waits for i, through others. -/
def reachB (md : Region.Mode) (ops : Array Oper) : Nat → Nat → Nat → Bool
  | 0, _, _ => false
  | f + 1, j, i => match ops[j]? with
    | some o => o.after.any fun e => Region.binds md e && (e.on == i || reachB md ops f e.on i)
    | none => false

theorem reach_listed {listed : Array Bool} (h : Closed md ops listed) {i : Nat} : ∀ (f j : Nat), reachB md ops f j i = true → listed.getD j false = true → listed.getD i false = true
  | 0, _, hr, _ => by simp [reachB] at hr
  | f + 1, j, hr, hl => by
    unfold reachB at hr
    split at hr
    · rename_i o ho
      obtain ⟨e, he, hb⟩ := Array.any_eq_true'.1 hr
      simp only [Bool.and_eq_true, Bool.or_eq_true, beq_iff_eq] at hb
      have h1 := h j o ho hl e he hb.1
      rcases hb.2 with h2 | h2
      · rw [← h2]; exact h1
      · exact reach_listed h f e.on h2 h1
    · cases hr

theorem wpAnyT_first {i : Nat} {oi : Oper} {v : Value} (hi : ops[i]? = some oi) (hsel : ∀ (j : Nat) (o : Oper) cs b, ops[j]? = some o → o.op ≠ .select cs b)
    (hQ : ∀ c a w, Q (.panic c) (a.put oi.dst v) w → Q (.panic c) a w) (hit : i ∉ tail) (hreach : ∀ listed, Closed md ops listed → listed.getD i false = false → headB tail listed = true) :
    ∀ (fuel : Nat) (listed : Array Bool) (a : Act) (w : World), Closed md ops listed →
      (∀ j oj, ops[j]? = some oj → j ≠ i → listed.getD j true = false → (∀ e ∈ oj.after, Region.binds md e = true → e.on ≠ i) → oi.apart ops oj = true) →
      i ∈ Region.ready md ops listed → YieldsIf P ops S oi v a → S w →
      wpAnyT P md ops Q S tail fuel (listed.setIfInBounds i true) (a.put oi.dst v) w → wpAnyT P md ops Q S tail (fuel + 1) listed a w := by
  intro fuel
  induction fuel with
  | zero =>
    intro listed a w _ _ hr hy hS H
    refine ⟨fun h => (by rw [h] at hr; cases hr), fun j hj => ?_⟩
    by_cases hji : j = i
    · subst hji; exact hy.wpOp hi hS ⟨fun _ => hS, H⟩
    · have := ready_mono hj hji
      rw [H.1] at this
      cases this
  | succ fuel ih =>
    intro listed a w hcl hfree hr hy hS H
    refine ⟨fun h => (by rw [h] at hr; cases hr), fun j hj => ?_⟩
    by_cases hji : j = i
    · subst hji; exact hy.wpOp hi hS ⟨fun _ => hS, H⟩
    · have h1 := H.2 j (ready_mono hj hji)
      obtain ⟨hjun, oj, hoj, hall⟩ := mem_ready.1 hj
      have hun : listed.getD i true = false := (mem_ready.1 hr).1
      have hil : i < listed.size := by
        rcases Nat.lt_or_ge i listed.size with h' | h'
        · exact h'
        · simp [Array.getElem?_eq_none h'] at hun
      have hun' : listed.getD i false = false := by simp [hil] at hun ⊢; exact hun
      have hnot : ∀ e ∈ oj.after, Region.binds md e = true → e.on ≠ i := fun e he hb heq => by
        have h1 := hall e he hb
        rw [heq, hun'] at h1
        cases h1
      have h2 := wpOp_putIf hoj (hfree j oj hoj hji hjun hnot) (fun cs b => hsel i oi cs b hi) (fun cs b => hsel j oj cs b hoj) hQ hy h1
      have hfree' : ∀ k ok, ops[k]? = some ok → k ≠ i → (listed.setIfInBounds j true).getD k true = false →
          (∀ e ∈ ok.after, Region.binds md e = true → e.on ≠ i) → oi.apart ops ok = true := fun k ok hk hki hun hno => by
        refine hfree k ok hk hki ?_ hno
        by_cases hjk : j = k
        · subst hjk; exact hjun
        · rw [getD_set_ne true hjk] at hun; exact hun
      have hcl' := hcl.set hj
      have hhead : headB tail (listed.setIfInBounds j true) = true := hreach _ hcl' (by rw [getD_set_ne false hji]; exact hun')
      have hhead' : headB tail ((listed.setIfInBounds i true).setIfInBounds j true) = true := by
        rw [Array.setIfInBounds_comm _ _ (Ne.symm hji)]
        unfold headB at hhead ⊢
        rw [List.all_eq_true] at hhead ⊢
        intro t ht
        rw [getD_set_ne (i := i) (j := t) false (fun e => hit (by rw [e]; exact ht))]
        exact hhead t ht
      refine wpOp_mono (fun a' w' h3 => ⟨fun _ => h3.2.1 hhead', ih (listed.setIfInBounds j true) a' w' hcl' hfree' (ready_mono hr (Ne.symm hji)) h3.1 (h3.2.1 hhead') ?_⟩) h2
      rw [Array.setIfInBounds_comm _ _ hji]
      exact h3.2.2

theorem headB_set {tail : List Nat} {listed : Array Bool} {i : Nat} (hit : i ∉ tail) : headB tail (listed.setIfInBounds i true) = headB tail listed := by
  unfold headB
  rw [Bool.eq_iff_iff, List.all_eq_true, List.all_eq_true]
  constructor
  · intro h t ht
    have := h t ht
    rwa [getD_set_ne (i := i) (j := t) false (fun e => hit (by rw [e]; exact ht))] at this
  · intro h t ht
    rw [getD_set_ne (i := i) (j := t) false (fun e => hit (by rw [e]; exact ht))]
    exact h t ht

theorem wpAnyT_first_free {i : Nat} {oi : Oper} {v : Value} (hi : ops[i]? = some oi) (hsel : ∀ (j : Nat) (o : Oper) cs b, ops[j]? = some o → o.op ≠ .select cs b)
    (hQ : ∀ c a w, Q (.panic c) (a.put oi.dst v) w → Q (.panic c) a w) (hit : i ∉ tail) :
    ∀ (fuel : Nat) (listed : Array Bool) (a : Act) (w : World), Closed md ops listed →
      (∀ j oj, ops[j]? = some oj → j ≠ i → listed.getD j true = false → (∀ e ∈ oj.after, Region.binds md e = true → e.on ≠ i) → oi.apart ops oj = true) →
      i ∈ Region.ready md ops listed → YieldsIf P ops (fun _ => True) oi v a → (headB tail listed = true → S w) →
      wpAnyT P md ops Q S tail fuel (listed.setIfInBounds i true) (a.put oi.dst v) w → wpAnyT P md ops Q S tail (fuel + 1) listed a w := by
  intro fuel
  induction fuel with
  | zero =>
    intro listed a w _ _ hr hy hS H
    have hh : headB tail (listed.setIfInBounds i true) = headB tail listed := headB_set hit
    refine ⟨fun h => (by rw [h] at hr; cases hr), fun j hj => ?_⟩
    by_cases hji : j = i
    · subst hji; exact hy.wpOp hi trivial ⟨fun h0 => hS (by rw [← hh]; exact h0), H⟩
    · have := ready_mono hj hji
      rw [H.1] at this
      cases this
  | succ fuel ih =>
    intro listed a w hcl hfree hr hy hS H
    have hh : headB tail (listed.setIfInBounds i true) = headB tail listed := headB_set hit
    refine ⟨fun h => (by rw [h] at hr; cases hr), fun j hj => ?_⟩
    by_cases hji : j = i
    · subst hji; exact hy.wpOp hi trivial ⟨fun h0 => hS (by rw [← hh]; exact h0), H⟩
    · have h1 := H.2 j (ready_mono hj hji)
      obtain ⟨hjun, oj, hoj, hall⟩ := mem_ready.1 hj
      have hun : listed.getD i true = false := (mem_ready.1 hr).1
      have hil : i < listed.size := by
        rcases Nat.lt_or_ge i listed.size with h' | h'
        · exact h'
        · simp [Array.getElem?_eq_none h'] at hun
      have hun' : listed.getD i false = false := by simp [hil] at hun ⊢; exact hun
      have hnot : ∀ e ∈ oj.after, Region.binds md e = true → e.on ≠ i := fun e he hb heq => by
        have h1 := hall e he hb
        rw [heq, hun'] at h1
        cases h1
      have h2 := wpOp_putIf hoj (hfree j oj hoj hji hjun hnot) (fun cs b => hsel i oi cs b hi) (fun cs b => hsel j oj cs b hoj) hQ hy h1
      have hfree' : ∀ k ok, ops[k]? = some ok → k ≠ i → (listed.setIfInBounds j true).getD k true = false →
          (∀ e ∈ ok.after, Region.binds md e = true → e.on ≠ i) → oi.apart ops ok = true := fun k ok hk hki hun hno => by
        refine hfree k ok hk hki ?_ hno
        by_cases hjk : j = k
        · subst hjk; exact hjun
        · rw [getD_set_ne true hjk] at hun; exact hun
      have hcl' := hcl.set hj
      have hh2 : headB tail ((listed.setIfInBounds i true).setIfInBounds j true) = headB tail (listed.setIfInBounds j true) := by
        rw [Array.setIfInBounds_comm _ _ (Ne.symm hji)]
        exact headB_set hit
      refine wpOp_mono (fun a' w' h3 => ⟨fun h0 => h3.2.1 (by rw [hh2]; exact h0), ih (listed.setIfInBounds j true) a' w' hcl' hfree' (ready_mono hr (Ne.symm hji)) h3.1 (fun h0 => h3.2.1 (by rw [hh2]; exact h0)) ?_⟩) h2
      rw [Array.setIfInBounds_comm _ _ hji]
      exact h3.2.2

/-- The state of the order: what has come up so far, and that it is closed. -/
theorem wpAnyT_take {i : Nat} {oi : Oper} {v : Value} {fuel : Nat} {listed : Array Bool} {a : Act} {w : World} (hcl : Closed md ops listed) (hi : ops[i]? = some oi)
    (hB : (Region.noSelect ops && Region.free md ops listed i && (Region.ready md ops listed).contains i && !tail.contains i && tail.all (fun t => reachB md ops ops.size t i)) = true)
    (hQ : ∀ c a w, Q (.panic c) (a.put oi.dst v) w → Q (.panic c) a w) (hS : S w) (hy : YieldsIf P ops S oi v a)
    (h : Closed md ops (listed.setIfInBounds i true) → wpAnyT P md ops Q S tail fuel (listed.setIfInBounds i true) (a.put oi.dst v) w) : wpAnyT P md ops Q S tail (fuel + 1) listed a w := by
  simp only [Bool.and_eq_true, Bool.not_eq_true'] at hB
  obtain ⟨⟨⟨⟨hs, hf⟩, hr⟩, ht⟩, hreach⟩ := hB
  have hr' : i ∈ Region.ready md ops listed := by simpa using hr
  refine wpAnyT_first hi (Region.noSelect_spec hs) hQ (by simpa using ht) (fun l hl hun => ?_) fuel listed a w hcl (Region.free_spec hi hf) hr' hy hS (h (hcl.set hr'))
  unfold headB
  rw [List.all_eq_true] at hreach ⊢
  intro t htt
  cases hlt : l.getD t false with
  | false => rfl
  | true =>
    have := reach_listed hl ops.size t (hreach t htt) hlt
    rw [hun] at this
    cases this

/-- An operation that looks at no memory may be taken first. -/
theorem wpAnyT_free {i : Nat} {oi : Oper} {v : Value} {fuel : Nat} {listed : Array Bool} {a : Act} {w : World} (hcl : Closed md ops listed) (hi : ops[i]? = some oi)
    (hB : (Region.noSelect ops && Region.free md ops listed i && (Region.ready md ops listed).contains i && !tail.contains i) = true)
    (hQ : ∀ c a w, Q (.panic c) (a.put oi.dst v) w → Q (.panic c) a w) (hS : S w) (hy : YieldsIf P ops (fun _ => True) oi v a)
    (h : Closed md ops (listed.setIfInBounds i true) → wpAnyT P md ops Q S tail fuel (listed.setIfInBounds i true) (a.put oi.dst v) w) : wpAnyT P md ops Q S tail (fuel + 1) listed a w := by
  simp only [Bool.and_eq_true, Bool.not_eq_true'] at hB
  obtain ⟨⟨⟨hs, hf⟩, hr⟩, ht⟩ := hB
  have hr' : i ∈ Region.ready md ops listed := by simpa using hr
  exact wpAnyT_first_free hi (Region.noSelect_spec hs) hQ (by simpa using ht) fuel listed a w hcl (Region.free_spec hi hf) hr' hy (fun _ => hS) (h (hcl.set hr'))

/-- One operation alone may come up: the head is not left. -/
theorem wpAnyT_step {i : Nat} {oi : Oper} {fuel : Nat} {listed : Array Bool} {a : Act} {w : World} (hcl : Closed md ops listed) (hi : ops[i]? = some oi) (hr : Region.ready md ops listed = [i])
    (h : Closed md ops (listed.setIfInBounds i true) → wpList P ops (Exit.then (fun a' w' => S w' ∧ wpAnyT P md ops Q S tail fuel (listed.setIfInBounds i true) a' w') Q) [oi] a w) : wpAnyT P md ops Q S tail (fuel + 1) listed a w := by
  refine ⟨fun h0 => (by rw [hr] at h0; cases h0), fun j hj => ?_⟩
  rw [hr] at hj
  have hji : j = i := by simpa using hj
  subst hji
  have H := h (hcl.set (by rw [hr]; simp))
  unfold wpList at H
  unfold wpOp
  simp only [hi]
  split
  · rename_i hw
    rw [if_pos hw] at H
    refine H.imp (fun H => ?_) (fun ⟨h1, h2⟩ => ⟨h1, ?_⟩)
    · unfold Oper.wp at H ⊢
      generalize (execOp a.eval oi).run P w = r at *
      cases r with
      | ok n w' =>
        cases n <;> simp only [Oper.upon, wpList, Exit.then] at H ⊢ <;> first
          | exact ⟨fun _ => H.1, H.2⟩
          | (refine Calls.mono H fun e w'' he => ?_
             cases e with
             | returned u => exact ⟨fun _ => he.1, he.2⟩
             | panicked c => exact he
             | outgrown => obtain ⟨a0, w0, hq⟩ := he; exact ⟨a0, w0, hq⟩)
          | exact Rows.mono H fun u w'' he => ⟨fun _ => he.1, he.2⟩
      | halt x w' => cases x <;> simp only [Oper.upon, Exit.then] at H ⊢ <;> exact H
    · obtain ⟨a0, w0, hq⟩ := h2; exact ⟨a0, w0, hq⟩
  · rename_i hw
    rw [if_neg hw] at H
    exact ⟨fun _ => H.1, H.2⟩

/-- One operation alone may come up, of the tail or behind it. -/
theorem wpAnyT_last {i : Nat} {oi : Oper} {fuel : Nat} {listed : Array Bool} {a : Act} {w : World} (hcl : Closed md ops listed) (hi : ops[i]? = some oi) (hr : Region.ready md ops listed = [i])
    (ht : headB tail (listed.setIfInBounds i true) = false)
    (h : Closed md ops (listed.setIfInBounds i true) → wpList P ops (Exit.then (fun a' w' => wpAnyT P md ops Q S tail fuel (listed.setIfInBounds i true) a' w') Q) [oi] a w) : wpAnyT P md ops Q S tail (fuel + 1) listed a w := by
  refine ⟨fun h0 => (by rw [hr] at h0; cases h0), fun j hj => ?_⟩
  rw [hr] at hj
  have hji : j = i := by simpa using hj
  subst hji
  have H := h (hcl.set (by rw [hr]; simp))
  unfold wpList at H
  unfold wpOp
  simp only [hi]
  split
  · rename_i hw
    rw [if_pos hw] at H
    refine H.imp (fun H => ?_) (fun ⟨h1, h2⟩ => ⟨h1, ?_⟩)
    · unfold Oper.wp at H ⊢
      generalize (execOp a.eval oi).run P w = r at *
      cases r with
      | ok n w' =>
        cases n <;> simp only [Oper.upon, wpList, Exit.then] at H ⊢ <;> first
          | exact ⟨fun h0 => (by rw [ht] at h0; cases h0), H⟩
          | (refine Calls.mono H fun e w'' he => ?_
             cases e with
             | returned u => exact ⟨fun h0 => (by rw [ht] at h0; cases h0), he⟩
             | panicked c => exact he
             | outgrown => obtain ⟨a0, w0, hq⟩ := he; exact ⟨a0, w0, hq⟩)
          | exact Rows.mono H fun u w'' he => ⟨fun h0 => (by rw [ht] at h0; cases h0), he⟩
      | halt x w' => cases x <;> simp only [Oper.upon, Exit.then] at H ⊢ <;> exact H
    · obtain ⟨a0, w0, hq⟩ := h2; exact ⟨a0, w0, hq⟩
  · rename_i hw
    rw [if_neg hw] at H
    exact ⟨fun h0 => (by rw [ht] at h0; cases h0), H⟩

theorem wpAnyT_done {listed : Array Bool} {a : Act} {w : World} (hr : Region.ready md ops listed = []) (h : Q .normal a w) : ∀ fuel, wpAnyT P md ops Q S tail fuel listed a w
  | 0 => ⟨hr, h⟩
  | _ + 1 => ⟨fun _ => h, by rw [hr]; simp⟩

theorem wp_region_mix {id : Nat} {a : Act} {w : World} (S : World → Prop) (tail : List Nat) (hm : P.follows .mixedOrders = true)
    (h : Closed .any ops (Array.replicate ops.size false) → wpAnyT P .any ops Q S tail ops.size (Array.replicate ops.size false) a w.drew) : (Code.region id ops true).wp P Q a w :=
  wp_region_any hm (wpAny_of_T _ _ _ _ (h fun j oj _ hl => by
    rcases Nat.lt_or_ge j ops.size with h' | h'
    · simp [h'] at hl
    · simp [h'] at hl))
end
end Go.Proofs.YtpkcklpjbeginaaGreatDoor
